/- The law of normal forms against matrices, walked. -/
import Derived.Test.YtgkgloafjhiakaaDoorLm
import Derived.Test.YtgkgloafjhiakaaDoorC1
import Derived.Test.YtgkgloafjhiakaaDoorQt
namespace Go.Proofs.YtgkgloafjhiakaaDoor
open Go.RowKit Go.Sort

theorem wr_mul_l (a b : Mat) : wrM (mulM (wrM a) b) = wrM (mulM a b) := by
  have e : ∀ x y z t : Int, RowKit.wrap64 (RowKit.wrap64 x * y + RowKit.wrap64 z * t) = RowKit.wrap64 (x * y + z * t) := fun x y z t => by
    rw [← w64_add_l, w64_mul_l, w64_add_l, ← w64_add_r, w64_mul_l, w64_add_r]
  unfold mulM wrM
  dsimp only
  rw [e, e, e, e]
theorem wr_take {x l : List UInt8} {n : Nat} {d : UInt8} (h : l[n]? = some d) : wrM (matL (x ++ l.take (n + 1))) = wrM (mulM (wrM (matL (x ++ l.take n))) (ltM d)) := by
  obtain ⟨hn, e⟩ := List.getElem?_eq_some_iff.1 h
  rw [List.take_succ_eq_append_getElem hn, e, ← List.append_assoc, matL_snoc, wr_mul_l]
theorem wr_take2 {x : Mat} {l : List UInt8} {n : Nat} {d : UInt8} (h : l[n]? = some d) : wrM (mulM x (matL (l.take (n + 1)))) = wrM (mulM (wrM (mulM x (matL (l.take n)))) (ltM d)) := by
  obtain ⟨hn, e⟩ := List.getElem?_eq_some_iff.1 h
  rw [List.take_succ_eq_append_getElem hn, e, matL_snoc, wr_mul_l, mulM_assoc]
theorem half_get {l : List UInt8} {n : Nat} (hl : l.length = 3 ∧ wordL l) (hn : n < 3) : ∃ d, l[n]? = some d ∧ isL d :=
  ⟨l[n], List.getElem?_eq_getElem (by omega), hl.2 _ (List.getElem_mem _)⟩
theorem wrM_one : wrM oneM = (1, 0, 0, 1) := by simp [wrM, oneM, RowKit.wrap64]
theorem letter_on {c : UInt8} (hc : isL c) (w0 : World) : ∀ w, Below w0.heap.size w0 w → Calls Tryd.prog 41 #[.int .u8 (c.toNat : Int)] w fun r w' => r = .returned (mval (ltM c)) ∧ Below w.heap.size w w' := fun w _ => letter_any c hc w
theorem matL_bw (n : Nat) : matL (rep n [65, 66, 65]) = twM (-(n : Int)) := by
  induction n with
  | zero => rfl
  | succ n ih =>
    have e : matL [65, 66, 65] = (0, -1, 1, 0) := by decide
    have e2 : mulM dM (0, -1, 1, 0) = oneM := by decide
    rw [rep_succ', matL_append, ih, e, twM_pred (-(n : Int)), mulM_assoc, e2, mul_oneM]
    congr 1
    omega
theorem get_mk {l : List UInt8} {n : Nat} {d : UInt8} (h : l[n]? = some d) : ∃ hlt : n < (mkB l).size, (mkB l)[n] = d := by
  obtain ⟨hn, e⟩ := List.getElem?_eq_some_iff.1 h
  exact ⟨hn, by rw [← e]; rfl⟩
theorem free_three {p : List UInt8} (h : noHalf p) {n : Nat} (h2 : 2 ≤ n) {d d1 d2 : UInt8} (hd : p[n]? = some d) (hd1 : p[n - 1]? = some d1) (hd2 : p[n - 2]? = some d2) : [d2, d1, d] ≠ [97, 98, 97] ∧ [d2, d1, d] ≠ [98, 97, 98] := by
  obtain ⟨m, rfl⟩ : ∃ m, n = m + 2 := ⟨n - 2, by omega⟩
  rw [show m + 2 - 1 = m + 1 by omega] at hd1
  rw [show m + 2 - 2 = m by omega] at hd2
  obtain ⟨a1, b1⟩ := List.getElem?_eq_some_iff.1 hd
  obtain ⟨a2, b2⟩ := List.getElem?_eq_some_iff.1 hd1
  obtain ⟨a3, b3⟩ := List.getElem?_eq_some_iff.1 hd2
  have e : p = p.take m ++ ([d2, d1, d] ++ p.drop (m + 3)) := by
    have e1 : p.drop m = d2 :: d1 :: d :: p.drop (m + 3) := by
      rw [List.drop_eq_getElem_cons a3, b3, List.drop_eq_getElem_cons a2, b2, List.drop_eq_getElem_cons a1, b1]
    conv => lhs; rw [← List.take_append_drop m p, e1]
    rfl
  exact ⟨fun hh => (h (p.take m) (p.drop (m + 3))).1 (by rw [← hh]; exact e), fun hh => (h (p.take m) (p.drop (m + 3))).2 (by rw [← hh]; exact e)⟩
set_option maxRecDepth 100000 in
set_option maxHeartbeats 8000000 in
theorem normalForms_any (t : ByteArray) (w : World) (hm : MX w) : Calls Tryd.prog 9 #[.string t] w fun r w' => r = .returned (.bool true) ∧ Below w.heap.size w w' := by
  have HM := Lib.hid hm
  have HP := Lib.hid hm.lt
  clear hm
  go_enter Tryd.func9, Tryd.ntmps9
  go_wp2_with fail
  with_reducible refine (long_any t _).mono ?_
  rintro _ w1 ⟨rfl, rfl⟩
  by_cases h1 : 200 < t.size
  · rw [decide_eq_true h1]
    clear h1
    go_wp2_with fail
    with_reducible refine (known_any _ HM.out).mono ?_
    rintro _ wk ⟨rfl, hbk⟩
    have HBK := Lib.hid (hbk)
    clear hbk
    go_wp2_with fail
    go_ret
    exact ⟨rfl, HBK.out⟩
  rw [decide_eq_false h1]
  have HT := Lib.hid (show t.size ≤ 1000000 by omega)
  clear h1
  go_wp2_with fail
  with_reducible refine (normalE_any t _ HM.out HT.out).mono ?_
  rintro _ w3 ⟨hb3, ⟨hno, rfl⟩ | ⟨hok, k, p, rfl, hn⟩⟩
  · have HB3 := Lib.hid hb3
    clear hb3
    go_wp2_with fail
    with_reducible refine (known_any _ (HM.out.below HP.out HB3.out)).mono ?_
    rintro _ wk ⟨rfl, hbk⟩
    have HBK := Lib.hid (below_trans' HB3.out hbk)
    clear hbk
    go_wp2_with fail
    go_ret
    exact ⟨rfl, HBK.out⟩
  have HB3 := Lib.hid hb3
  have HN := Lib.hid hn
  have HO := Lib.hid hok
  have ht60 := (okW_iff.1 hok).1
  have hl := li_size t
  have hk1 := hn.high
  have hk2 := hn.form.low
  have hp1 := hn.form.len
  rw [hl] at hk1 hk2 hp1
  have hp2 : p.length ≤ 120 := by omega
  have hps := size_mk p
  have HYw := Lib.hid hb3.size
  clear hb3 hn hok hl
  go_wp2_with fail
  have HA := Lib.hid (MatAt.new w3 (1, 0, 0, 1))
  have HB4 := Lib.hid (below_trans' HB3.out (belowA w3 (.cells (mcs (1, 0, 0, 1)) 34)))
  generalize w3.alloc (.cells (mcs (1, 0, 0, 1)) 34) = w4 at HA HB4 ⊢
  generalize w3.heap.size = Y at HA HYw ⊢
  by_cases hk : 0 ≤ k
  · skip
    have hN : ∃ N : Nat, k = (N : Int) ∧ N ≤ 60 := ⟨k.toNat, by omega, by omega⟩
    obtain ⟨N, rfl, hN60⟩ := hN
    clear hk hk1 hk2
    go_wp2_with fail
    go_loopw [7] (fun i wr => ∃ j : Nat, j ≤ N ∧ i = .int .i64 j ∧ Below w1.heap.size w1 wr ∧ MatAt wr Y (wrM (matL (rep j [97, 98, 97])))) (fun i _ => N - (intOf i).toNat)
    case atStart => exact ⟨0, by omega, rfl, HB4.out, by rw [show matL (rep 0 [97, 98, 97]) = oneM from rfl, wrM_one]; exact HA.out⟩
    case round =>
      obtain ⟨j, hj, rfl, hb, hA⟩ := hrel
      have HB5 := Lib.hid hb
      have HA5 := Lib.hid hA
      clear hb hA
      by_cases hlt : j < N
      · skip
        go_wp2_with fail
        go_loopw [9] (fun i wr2 => ∃ n : Nat, n ≤ 3 ∧ i = .int .i64 n ∧ Below w1.heap.size w1 wr2 ∧ MatAt wr2 Y (wrM (matL (rep j [97, 98, 97] ++ [97, 98, 97].take n)))) (fun i _ => 3 - (intOf i).toNat)
        case atStart => exact ⟨0, by omega, rfl, HB5.out, by simpa using HA5.out⟩
        case round =>
          obtain ⟨n, hn, rfl, hb, hA⟩ := hrel
          have HB6 := Lib.hid hb
          have HA6 := Lib.hid hA
          clear hb hA
          by_cases hltn : n < 3
          · have hx : ∃ d, [97, 98, 97][n]? = some d ∧ isL d := half_get (by decide) hltn
            obtain ⟨d, hd, hL⟩ := hx
            have HT := Lib.hid (wr_take (x := rep j [97, 98, 97]) hd)
            obtain ⟨hlt3, X⟩ := get_mk hd
            clear hd
            have T1 := Lib.hid (letter_on hL wr)
            generalize wrM (matL (rep j [97, 98, 97] ++ [97, 98, 97].take n)) = M at HT HA6
            generalize hM' : wrM (matL (rep j [97, 98, 97] ++ [97, 98, 97].take (n + 1))) = M' at HT
            have HM' := Lib.hid hM'
            clear hM'
            have T2 : Hid (∀ w, Below wr.heap.size wr w → Calls Tryd.prog 40 #[mval M, mval (ltM d)] w fun r w' => r = .returned (mval M') ∧ Below w.heap.size w w') := Lib.hid (by rw [HT.out]; exact times_on _ _ wr)
            have x0 := HA6.out.box.2
            have f0 := HA6.out.fz
            have Y0 := HA6.out.box.rg
            simp only [mcs] at x0 Y0
            go_wp2_with fail
            refine wp_region_qt 6 mixed (by kernel_rfl) ?_
            simp only [List.take_succ_cons, List.take_zero, List.drop_succ_cons, List.drop_zero]
            repeat (go_big_quiet_step (first | with_reducible exact rg_call T1.out _ _ | with_reducible exact rg_call T2.out _ _))
            refine wpQuiet_nil ?_
            intro w7 hb7
            have HB7 := Lib.hid (below_trans' HB6.out hb7)
            have HA7 := Lib.hid (HA6.out.below hb7)
            have x7 := HA7.out.box.2
            have f7 := HA7.out.fz
            simp only [mcs] at x7
            have HA8 := Lib.hid (HA7.out.set M')
            have HB8 := Lib.hid (below_set4 HB7.out HYw.out (.int .i64 M'.1) (.int .i64 M'.2.1) (.int .i64 M'.2.2.1) (.int .i64 M'.2.2.2))
            clear hb7 x0 f0 Y0 X T1 T2 HT
            go_wp2_with fail
            go_roundw
            case rel => exact ⟨n + 1, by omega, by go_num, HB8.out, by rw [HM'.out]; exact HA8.out⟩
            case measure => simp [intOf]; omega
          · obtain rfl : n = 3 := by omega
            have HA7 := Lib.hid (show MatAt wr Y (wrM (matL (rep (j + 1) [97, 98, 97]))) by rw [rep_succ']; exact HA6.out)
            clear HA6
            go_wp2_with fail
            go_roundw
            case rel => exact ⟨j + 1, by omega, by go_num, HB6.out, HA7.out⟩
            case measure => simp [intOf]; omega
      · obtain rfl : j = N := by omega
        have HA6 := Lib.hid (show MatAt wr Y (wrM (mulM (twM j) (matL (p.take 0)))) by
          have := HA5.out
          rw [matL_twW] at this
          rw [List.take_zero, show matL [] = oneM from rfl, mul_oneM]
          exact this)
        clear HA5
        go_wp2_with fail

        go_loopw [10] (fun i wr2 => ∃ n : Nat, n ≤ p.length ∧ i = .int .i64 n ∧ Below w1.heap.size w1 wr2 ∧ MatAt wr2 Y (wrM (mulM (twM (j : Int)) (matL (p.take n))))) (fun i _ => p.length - (intOf i).toNat)
        case atStart => exact ⟨0, by omega, rfl, HB5.out, HA6.out⟩
        case round =>
          obtain ⟨n, hn, rfl, hb, hA⟩ := hrel
          have HB7 := Lib.hid hb
          have HA7 := Lib.hid hA
          clear hb hA HA6 HB5
          by_cases hltn : n < p.length
          · obtain ⟨d, hd, hL⟩ : ∃ d, p[n]? = some d ∧ (d = 97 ∨ d = 98) := ⟨p[n], List.getElem?_eq_getElem hltn, HN.out.form.pos _ (List.getElem_mem hltn)⟩
            have HT := Lib.hid (wr_take2 (x := twM (j : Int)) hd)
            obtain ⟨hlt3, X⟩ := get_mk hd
            have T1 := Lib.hid (letter_on (posL_word HN.out.form.pos d (List.mem_of_getElem? hd)) wr)
            generalize wrM (mulM (twM (j : Int)) (matL (p.take n))) = M at HT HA7
            generalize hM' : wrM (mulM (twM (j : Int)) (matL (p.take (n + 1)))) = M' at HT
            have HM' := Lib.hid hM'
            clear hM'
            have T2 : Hid (∀ w, Below wr.heap.size wr w → Calls Tryd.prog 40 #[mval M, mval (ltM d)] w fun r w' => r = .returned (mval M') ∧ Below w.heap.size w w') := Lib.hid (by rw [HT.out]; exact times_on _ _ wr)
            have x0 := HA7.out.box.2
            have f0 := HA7.out.fz
            have Y0 := HA7.out.box.rg
            simp only [mcs] at x0 Y0
            by_cases h2 : 2 ≤ n
            · have h2b : decide ((2 : Int) ≤ (n : Int)) = true := decide_eq_true (by omega)
              have wv1 : IntKind.i64.wrap ((n : Int) - 1) = ((n - 1 : Nat) : Int) := (IntWalk.i64_in _ (by omega)).trans (by omega)
              have wv2 : IntKind.i64.wrap ((n : Int) - 2) = ((n - 2 : Nat) : Int) := (IntWalk.i64_in _ (by omega)).trans (by omega)
              obtain ⟨d1, hd1, hL1⟩ : ∃ d, p[n - 1]? = some d ∧ (d = 97 ∨ d = 98) := ⟨p[n - 1], List.getElem?_eq_getElem (by omega), HN.out.form.pos _ (List.getElem_mem (by omega))⟩
              obtain ⟨d2, hd2, hL2⟩ : ∃ d, p[n - 2]? = some d ∧ (d = 97 ∨ d = 98) := ⟨p[n - 2], List.getElem?_eq_getElem (by omega), HN.out.form.pos _ (List.getElem_mem (by omega))⟩
              have hfree := free_three HN.out.free h2 hd hd1 hd2
              obtain ⟨hlt1, X1⟩ := get_mk hd1
              obtain ⟨hlt2, X2⟩ := get_mk hd2
              clear hd hd1 hd2
              rcases hL with rfl | rfl
              · rcases hL1 with rfl | rfl
                · rcases hL2 with rfl | rfl
                  · clear hfree
                    have XN : ((mkB p)[n]).toNat = 97 := by rw [X]; rfl
                    have XN1 : ((mkB p)[n - 1]).toNat = 97 := by rw [X1]; rfl
                    have XN2 : ((mkB p)[n - 2]).toNat = 97 := by rw [X2]; rfl
                    clear X1 X2
                    clear X
                    go_wp2_with fail
                    go_quiet (fail)
                    clear x0 f0 Y0 h2b wv1 wv2 XN1 XN2
                    have HA9 := Lib.hid (HA7.out.drewN nq)
                    have HB9 := Lib.hid (below_drewN' HB7.out nq)
                    clear HA7 HB7 T1 T2
                    generalize wr.drewN nq = wr2 at HA9 HB9 ⊢
                    have T1 : Hid (∀ w, Below wr2.heap.size wr2 w → Calls Tryd.prog 41 #[.int .u8 97] w fun r w' => r = .returned (mval (ltM 97)) ∧ Below w.heap.size w w') := Lib.hid (letter_on (c := 97) (by decide) wr2)
                    have T2 : Hid (∀ w, Below wr2.heap.size wr2 w → Calls Tryd.prog 40 #[mval M, mval (ltM 97)] w fun r w' => r = .returned (mval M') ∧ Below w.heap.size w w') := Lib.hid (by rw [HT.out]; exact times_on _ _ _)
                    have x0 := HA9.out.box.2
                    have f0 := HA9.out.fz
                    have Y0 := HA9.out.box.rg
                    simp only [mcs] at x0 Y0
                    go_wp2_with fail
                    refine wp_region_qt 6 mixed (by kernel_rfl) ?_
                    simp only [List.take_succ_cons, List.take_zero, List.drop_succ_cons, List.drop_zero]
                    repeat (go_big_quiet_step (first | with_reducible exact rg_call T1.out _ _ | with_reducible exact rg_call T2.out _ _))
                    refine wpQuiet_nil ?_
                    intro w7 hb7
                    have HB10 := Lib.hid (below_trans' HB9.out hb7)
                    have HA10 := Lib.hid (HA9.out.below hb7)
                    have x7 := HA10.out.box.2
                    have f7 := HA10.out.fz
                    simp only [mcs] at x7
                    have HA8 := Lib.hid (HA10.out.set M')
                    have HB8 := Lib.hid (below_set4 HB10.out HYw.out (.int .i64 M'.1) (.int .i64 M'.2.1) (.int .i64 M'.2.2.1) (.int .i64 M'.2.2.2))
                    clear hb7 x0 f0 Y0 T1 T2 HT XN hlt3
                    go_wp2_with fail
                    go_roundw
                    case rel => exact ⟨n + 1, by omega, by go_num, HB8.out, by rw [HM'.out]; exact HA8.out⟩
                    case measure => simp [intOf]; omega
                  · clear hfree
                    have XN : ((mkB p)[n]).toNat = 97 := by rw [X]; rfl
                    have XN1 : ((mkB p)[n - 1]).toNat = 97 := by rw [X1]; rfl
                    have XN2 : ((mkB p)[n - 2]).toNat = 98 := by rw [X2]; rfl
                    clear X1 X2
                    clear X
                    go_wp2_with fail
                    go_quiet (fail)
                    clear x0 f0 Y0 h2b wv1 wv2 XN1 XN2
                    have HA9 := Lib.hid (HA7.out.drewN nq)
                    have HB9 := Lib.hid (below_drewN' HB7.out nq)
                    clear HA7 HB7 T1 T2
                    generalize wr.drewN nq = wr2 at HA9 HB9 ⊢
                    have T1 : Hid (∀ w, Below wr2.heap.size wr2 w → Calls Tryd.prog 41 #[.int .u8 97] w fun r w' => r = .returned (mval (ltM 97)) ∧ Below w.heap.size w w') := Lib.hid (letter_on (c := 97) (by decide) wr2)
                    have T2 : Hid (∀ w, Below wr2.heap.size wr2 w → Calls Tryd.prog 40 #[mval M, mval (ltM 97)] w fun r w' => r = .returned (mval M') ∧ Below w.heap.size w w') := Lib.hid (by rw [HT.out]; exact times_on _ _ _)
                    have x0 := HA9.out.box.2
                    have f0 := HA9.out.fz
                    have Y0 := HA9.out.box.rg
                    simp only [mcs] at x0 Y0
                    go_wp2_with fail
                    refine wp_region_qt 6 mixed (by kernel_rfl) ?_
                    simp only [List.take_succ_cons, List.take_zero, List.drop_succ_cons, List.drop_zero]
                    repeat (go_big_quiet_step (first | with_reducible exact rg_call T1.out _ _ | with_reducible exact rg_call T2.out _ _))
                    refine wpQuiet_nil ?_
                    intro w7 hb7
                    have HB10 := Lib.hid (below_trans' HB9.out hb7)
                    have HA10 := Lib.hid (HA9.out.below hb7)
                    have x7 := HA10.out.box.2
                    have f7 := HA10.out.fz
                    simp only [mcs] at x7
                    have HA8 := Lib.hid (HA10.out.set M')
                    have HB8 := Lib.hid (below_set4 HB10.out HYw.out (.int .i64 M'.1) (.int .i64 M'.2.1) (.int .i64 M'.2.2.1) (.int .i64 M'.2.2.2))
                    clear hb7 x0 f0 Y0 T1 T2 HT XN hlt3
                    go_wp2_with fail
                    go_roundw
                    case rel => exact ⟨n + 1, by omega, by go_num, HB8.out, by rw [HM'.out]; exact HA8.out⟩
                    case measure => simp [intOf]; omega
                · rcases hL2 with rfl | rfl
                  · exact absurd hfree (by decide)
                  · clear hfree
                    have XN : ((mkB p)[n]).toNat = 97 := by rw [X]; rfl
                    have XN1 : ((mkB p)[n - 1]).toNat = 98 := by rw [X1]; rfl
                    have XN2 : ((mkB p)[n - 2]).toNat = 98 := by rw [X2]; rfl
                    clear X1 X2
                    clear X
                    go_wp2_with fail
                    go_quiet (fail)
                    clear x0 f0 Y0 h2b wv1 wv2 XN1 XN2
                    have HA9 := Lib.hid (HA7.out.drewN nq)
                    have HB9 := Lib.hid (below_drewN' HB7.out nq)
                    clear HA7 HB7 T1 T2
                    generalize wr.drewN nq = wr2 at HA9 HB9 ⊢
                    have T1 : Hid (∀ w, Below wr2.heap.size wr2 w → Calls Tryd.prog 41 #[.int .u8 97] w fun r w' => r = .returned (mval (ltM 97)) ∧ Below w.heap.size w w') := Lib.hid (letter_on (c := 97) (by decide) wr2)
                    have T2 : Hid (∀ w, Below wr2.heap.size wr2 w → Calls Tryd.prog 40 #[mval M, mval (ltM 97)] w fun r w' => r = .returned (mval M') ∧ Below w.heap.size w w') := Lib.hid (by rw [HT.out]; exact times_on _ _ _)
                    have x0 := HA9.out.box.2
                    have f0 := HA9.out.fz
                    have Y0 := HA9.out.box.rg
                    simp only [mcs] at x0 Y0
                    go_wp2_with fail
                    refine wp_region_qt 6 mixed (by kernel_rfl) ?_
                    simp only [List.take_succ_cons, List.take_zero, List.drop_succ_cons, List.drop_zero]
                    repeat (go_big_quiet_step (first | with_reducible exact rg_call T1.out _ _ | with_reducible exact rg_call T2.out _ _))
                    refine wpQuiet_nil ?_
                    intro w7 hb7
                    have HB10 := Lib.hid (below_trans' HB9.out hb7)
                    have HA10 := Lib.hid (HA9.out.below hb7)
                    have x7 := HA10.out.box.2
                    have f7 := HA10.out.fz
                    simp only [mcs] at x7
                    have HA8 := Lib.hid (HA10.out.set M')
                    have HB8 := Lib.hid (below_set4 HB10.out HYw.out (.int .i64 M'.1) (.int .i64 M'.2.1) (.int .i64 M'.2.2.1) (.int .i64 M'.2.2.2))
                    clear hb7 x0 f0 Y0 T1 T2 HT XN hlt3
                    go_wp2_with fail
                    go_roundw
                    case rel => exact ⟨n + 1, by omega, by go_num, HB8.out, by rw [HM'.out]; exact HA8.out⟩
                    case measure => simp [intOf]; omega
              · rcases hL1 with rfl | rfl
                · rcases hL2 with rfl | rfl
                  · clear hfree
                    have XN : ((mkB p)[n]).toNat = 98 := by rw [X]; rfl
                    have XN1 : ((mkB p)[n - 1]).toNat = 97 := by rw [X1]; rfl
                    have XN2 : ((mkB p)[n - 2]).toNat = 97 := by rw [X2]; rfl
                    clear X1 X2
                    clear X
                    go_wp2_with fail
                    go_quiet (fail)
                    clear x0 f0 Y0 h2b wv1 wv2 XN1 XN2
                    have HA9 := Lib.hid (HA7.out.drewN nq)
                    have HB9 := Lib.hid (below_drewN' HB7.out nq)
                    clear HA7 HB7 T1 T2
                    generalize wr.drewN nq = wr2 at HA9 HB9 ⊢
                    have T1 : Hid (∀ w, Below wr2.heap.size wr2 w → Calls Tryd.prog 41 #[.int .u8 98] w fun r w' => r = .returned (mval (ltM 98)) ∧ Below w.heap.size w w') := Lib.hid (letter_on (c := 98) (by decide) wr2)
                    have T2 : Hid (∀ w, Below wr2.heap.size wr2 w → Calls Tryd.prog 40 #[mval M, mval (ltM 98)] w fun r w' => r = .returned (mval M') ∧ Below w.heap.size w w') := Lib.hid (by rw [HT.out]; exact times_on _ _ _)
                    have x0 := HA9.out.box.2
                    have f0 := HA9.out.fz
                    have Y0 := HA9.out.box.rg
                    simp only [mcs] at x0 Y0
                    go_wp2_with fail
                    refine wp_region_qt 6 mixed (by kernel_rfl) ?_
                    simp only [List.take_succ_cons, List.take_zero, List.drop_succ_cons, List.drop_zero]
                    repeat (go_big_quiet_step (first | with_reducible exact rg_call T1.out _ _ | with_reducible exact rg_call T2.out _ _))
                    refine wpQuiet_nil ?_
                    intro w7 hb7
                    have HB10 := Lib.hid (below_trans' HB9.out hb7)
                    have HA10 := Lib.hid (HA9.out.below hb7)
                    have x7 := HA10.out.box.2
                    have f7 := HA10.out.fz
                    simp only [mcs] at x7
                    have HA8 := Lib.hid (HA10.out.set M')
                    have HB8 := Lib.hid (below_set4 HB10.out HYw.out (.int .i64 M'.1) (.int .i64 M'.2.1) (.int .i64 M'.2.2.1) (.int .i64 M'.2.2.2))
                    clear hb7 x0 f0 Y0 T1 T2 HT XN hlt3
                    go_wp2_with fail
                    go_roundw
                    case rel => exact ⟨n + 1, by omega, by go_num, HB8.out, by rw [HM'.out]; exact HA8.out⟩
                    case measure => simp [intOf]; omega
                  · exact absurd hfree (by decide)
                · rcases hL2 with rfl | rfl
                  · clear hfree
                    have XN : ((mkB p)[n]).toNat = 98 := by rw [X]; rfl
                    have XN1 : ((mkB p)[n - 1]).toNat = 98 := by rw [X1]; rfl
                    have XN2 : ((mkB p)[n - 2]).toNat = 97 := by rw [X2]; rfl
                    clear X1 X2
                    clear X
                    go_wp2_with fail
                    go_quiet (fail)
                    clear x0 f0 Y0 h2b wv1 wv2 XN1 XN2
                    have HA9 := Lib.hid (HA7.out.drewN nq)
                    have HB9 := Lib.hid (below_drewN' HB7.out nq)
                    clear HA7 HB7 T1 T2
                    generalize wr.drewN nq = wr2 at HA9 HB9 ⊢
                    have T1 : Hid (∀ w, Below wr2.heap.size wr2 w → Calls Tryd.prog 41 #[.int .u8 98] w fun r w' => r = .returned (mval (ltM 98)) ∧ Below w.heap.size w w') := Lib.hid (letter_on (c := 98) (by decide) wr2)
                    have T2 : Hid (∀ w, Below wr2.heap.size wr2 w → Calls Tryd.prog 40 #[mval M, mval (ltM 98)] w fun r w' => r = .returned (mval M') ∧ Below w.heap.size w w') := Lib.hid (by rw [HT.out]; exact times_on _ _ _)
                    have x0 := HA9.out.box.2
                    have f0 := HA9.out.fz
                    have Y0 := HA9.out.box.rg
                    simp only [mcs] at x0 Y0
                    go_wp2_with fail
                    refine wp_region_qt 6 mixed (by kernel_rfl) ?_
                    simp only [List.take_succ_cons, List.take_zero, List.drop_succ_cons, List.drop_zero]
                    repeat (go_big_quiet_step (first | with_reducible exact rg_call T1.out _ _ | with_reducible exact rg_call T2.out _ _))
                    refine wpQuiet_nil ?_
                    intro w7 hb7
                    have HB10 := Lib.hid (below_trans' HB9.out hb7)
                    have HA10 := Lib.hid (HA9.out.below hb7)
                    have x7 := HA10.out.box.2
                    have f7 := HA10.out.fz
                    simp only [mcs] at x7
                    have HA8 := Lib.hid (HA10.out.set M')
                    have HB8 := Lib.hid (below_set4 HB10.out HYw.out (.int .i64 M'.1) (.int .i64 M'.2.1) (.int .i64 M'.2.2.1) (.int .i64 M'.2.2.2))
                    clear hb7 x0 f0 Y0 T1 T2 HT XN hlt3
                    go_wp2_with fail
                    go_roundw
                    case rel => exact ⟨n + 1, by omega, by go_num, HB8.out, by rw [HM'.out]; exact HA8.out⟩
                    case measure => simp [intOf]; omega
                  · clear hfree
                    have XN : ((mkB p)[n]).toNat = 98 := by rw [X]; rfl
                    have XN1 : ((mkB p)[n - 1]).toNat = 98 := by rw [X1]; rfl
                    have XN2 : ((mkB p)[n - 2]).toNat = 98 := by rw [X2]; rfl
                    clear X1 X2
                    clear X
                    go_wp2_with fail
                    go_quiet (fail)
                    clear x0 f0 Y0 h2b wv1 wv2 XN1 XN2
                    have HA9 := Lib.hid (HA7.out.drewN nq)
                    have HB9 := Lib.hid (below_drewN' HB7.out nq)
                    clear HA7 HB7 T1 T2
                    generalize wr.drewN nq = wr2 at HA9 HB9 ⊢
                    have T1 : Hid (∀ w, Below wr2.heap.size wr2 w → Calls Tryd.prog 41 #[.int .u8 98] w fun r w' => r = .returned (mval (ltM 98)) ∧ Below w.heap.size w w') := Lib.hid (letter_on (c := 98) (by decide) wr2)
                    have T2 : Hid (∀ w, Below wr2.heap.size wr2 w → Calls Tryd.prog 40 #[mval M, mval (ltM 98)] w fun r w' => r = .returned (mval M') ∧ Below w.heap.size w w') := Lib.hid (by rw [HT.out]; exact times_on _ _ _)
                    have x0 := HA9.out.box.2
                    have f0 := HA9.out.fz
                    have Y0 := HA9.out.box.rg
                    simp only [mcs] at x0 Y0
                    go_wp2_with fail
                    refine wp_region_qt 6 mixed (by kernel_rfl) ?_
                    simp only [List.take_succ_cons, List.take_zero, List.drop_succ_cons, List.drop_zero]
                    repeat (go_big_quiet_step (first | with_reducible exact rg_call T1.out _ _ | with_reducible exact rg_call T2.out _ _))
                    refine wpQuiet_nil ?_
                    intro w7 hb7
                    have HB10 := Lib.hid (below_trans' HB9.out hb7)
                    have HA10 := Lib.hid (HA9.out.below hb7)
                    have x7 := HA10.out.box.2
                    have f7 := HA10.out.fz
                    simp only [mcs] at x7
                    have HA8 := Lib.hid (HA10.out.set M')
                    have HB8 := Lib.hid (below_set4 HB10.out HYw.out (.int .i64 M'.1) (.int .i64 M'.2.1) (.int .i64 M'.2.2.1) (.int .i64 M'.2.2.2))
                    clear hb7 x0 f0 Y0 T1 T2 HT XN hlt3
                    go_wp2_with fail
                    go_roundw
                    case rel => exact ⟨n + 1, by omega, by go_num, HB8.out, by rw [HM'.out]; exact HA8.out⟩
                    case measure => simp [intOf]; omega
            · have h2b : decide ((2 : Int) ≤ (n : Int)) = false := decide_eq_false (by omega)
              clear hd
              rcases hL with rfl | rfl
              · skip
                have XN : ((mkB p)[n]).toNat = 97 := by rw [X]; rfl
                clear X
                go_wp2_with fail
                go_quiet (fail)
                clear x0 f0 Y0 h2b
                have HA9 := Lib.hid (HA7.out.drewN nq)
                have HB9 := Lib.hid (below_drewN' HB7.out nq)
                clear HA7 HB7 T1 T2
                generalize wr.drewN nq = wr2 at HA9 HB9 ⊢
                have T1 : Hid (∀ w, Below wr2.heap.size wr2 w → Calls Tryd.prog 41 #[.int .u8 97] w fun r w' => r = .returned (mval (ltM 97)) ∧ Below w.heap.size w w') := Lib.hid (letter_on (c := 97) (by decide) wr2)
                have T2 : Hid (∀ w, Below wr2.heap.size wr2 w → Calls Tryd.prog 40 #[mval M, mval (ltM 97)] w fun r w' => r = .returned (mval M') ∧ Below w.heap.size w w') := Lib.hid (by rw [HT.out]; exact times_on _ _ _)
                have x0 := HA9.out.box.2
                have f0 := HA9.out.fz
                have Y0 := HA9.out.box.rg
                simp only [mcs] at x0 Y0
                go_wp2_with fail
                refine wp_region_qt 6 mixed (by kernel_rfl) ?_
                simp only [List.take_succ_cons, List.take_zero, List.drop_succ_cons, List.drop_zero]
                repeat (go_big_quiet_step (first | with_reducible exact rg_call T1.out _ _ | with_reducible exact rg_call T2.out _ _))
                refine wpQuiet_nil ?_
                intro w7 hb7
                have HB10 := Lib.hid (below_trans' HB9.out hb7)
                have HA10 := Lib.hid (HA9.out.below hb7)
                have x7 := HA10.out.box.2
                have f7 := HA10.out.fz
                simp only [mcs] at x7
                have HA8 := Lib.hid (HA10.out.set M')
                have HB8 := Lib.hid (below_set4 HB10.out HYw.out (.int .i64 M'.1) (.int .i64 M'.2.1) (.int .i64 M'.2.2.1) (.int .i64 M'.2.2.2))
                clear hb7 x0 f0 Y0 T1 T2 HT XN hlt3
                go_wp2_with fail
                go_roundw
                case rel => exact ⟨n + 1, by omega, by go_num, HB8.out, by rw [HM'.out]; exact HA8.out⟩
                case measure => simp [intOf]; omega
              · skip
                have XN : ((mkB p)[n]).toNat = 98 := by rw [X]; rfl
                clear X
                go_wp2_with fail
                go_quiet (fail)
                clear x0 f0 Y0 h2b
                have HA9 := Lib.hid (HA7.out.drewN nq)
                have HB9 := Lib.hid (below_drewN' HB7.out nq)
                clear HA7 HB7 T1 T2
                generalize wr.drewN nq = wr2 at HA9 HB9 ⊢
                have T1 : Hid (∀ w, Below wr2.heap.size wr2 w → Calls Tryd.prog 41 #[.int .u8 98] w fun r w' => r = .returned (mval (ltM 98)) ∧ Below w.heap.size w w') := Lib.hid (letter_on (c := 98) (by decide) wr2)
                have T2 : Hid (∀ w, Below wr2.heap.size wr2 w → Calls Tryd.prog 40 #[mval M, mval (ltM 98)] w fun r w' => r = .returned (mval M') ∧ Below w.heap.size w w') := Lib.hid (by rw [HT.out]; exact times_on _ _ _)
                have x0 := HA9.out.box.2
                have f0 := HA9.out.fz
                have Y0 := HA9.out.box.rg
                simp only [mcs] at x0 Y0
                go_wp2_with fail
                refine wp_region_qt 6 mixed (by kernel_rfl) ?_
                simp only [List.take_succ_cons, List.take_zero, List.drop_succ_cons, List.drop_zero]
                repeat (go_big_quiet_step (first | with_reducible exact rg_call T1.out _ _ | with_reducible exact rg_call T2.out _ _))
                refine wpQuiet_nil ?_
                intro w7 hb7
                have HB10 := Lib.hid (below_trans' HB9.out hb7)
                have HA10 := Lib.hid (HA9.out.below hb7)
                have x7 := HA10.out.box.2
                have f7 := HA10.out.fz
                simp only [mcs] at x7
                have HA8 := Lib.hid (HA10.out.set M')
                have HB8 := Lib.hid (below_set4 HB10.out HYw.out (.int .i64 M'.1) (.int .i64 M'.2.1) (.int .i64 M'.2.2.1) (.int .i64 M'.2.2.2))
                clear hb7 x0 f0 Y0 T1 T2 HT XN hlt3
                go_wp2_with fail
                go_roundw
                case rel => exact ⟨n + 1, by omega, by go_num, HB8.out, by rw [HM'.out]; exact HA8.out⟩
                case measure => simp [intOf]; omega
          · obtain rfl : n = p.length := by omega
            have hfin : wrM (mulM (twM (j : Int)) (matL (p.take p.length))) = matL (liB t) := by
              rw [List.take_length, ← HN.out.form.mat]
              exact wrM_id ((matL_b60 (okW_iff.1 HO.out).2 (by rw [li_size]; exact ht60)).mono (by decide))
            rw [hfin] at HA7
            have HC := Lib.hid (show crossR t = 3 * (j : Int) + (p.length : Int) by unfold crossR; rw [HO.out]; exact HN.out.form.cnt)
            clear hfin
            go_wp2_with fail
            with_reducible refine (matrix_any t _ (by omega)).mono ?_
            rintro _ w9 ⟨rfl, hb9⟩
            rw [matR_ok HO.out, ansE_ok HO.out]
            have HA8 := Lib.hid (HA7.out.below hb9)
            have HB8 := Lib.hid (below_trans' HB7.out hb9)
            clear hb9 HA7 HB7
            generalize matL (liB t) = MM at HA8 ⊢
            go_wp2_with fail
            have HA9 := Lib.hid (HA8.out.below (belowA w9 (.cells (mcs MM) 34)))
            have HE9 := Lib.hid (MatAt.new w9 MM)
            have HB9 := Lib.hid (below_trans' HB8.out (belowA w9 (.cells (mcs MM) 34)))
            generalize w9.alloc (.cells (mcs MM) 34) = w10 at HA9 HE9 HB9 ⊢
            generalize w9.heap.size = Y2 at HE9 ⊢
            with_reducible refine (crossings_any t _ (by omega)).mono ?_
            rintro _ w11 ⟨rfl, hb11⟩
            rw [HC.out, ansE_ok HO.out]
            have HA10 := Lib.hid (HA9.out.below hb11)
            have HE10 := Lib.hid (HE9.out.below hb11)
            have HB10 := Lib.hid (below_trans' HB9.out hb11)
            have x0 := HA10.out.box.2
            have y0 := HE10.out.box.2
            simp only [mcs] at x0 y0
            have EQ : ∀ w, (binOp .eql 34 (mval MM) (mval MM)).run Tryd.prog w = .ok (.bool true) w := fun w => by rw [eql34, decide_eq_true rfl]
            clear hb11 HA8 HA9 HE9 HC
            go_wp2_with fail
            with_reducible refine (known_any _ (HM.out.below HP.out HB10.out)).mono ?_
            rintro _ wk ⟨rfl, hbk⟩
            have HBK := Lib.hid (below_trans' HB10.out hbk)
            clear hbk
            go_wp2_with fail
            go_ret
            exact ⟨rfl, HBK.out⟩
  · skip
    obtain ⟨N, hkN, hN60⟩ : ∃ N : Nat, k = -(N : Int) ∧ N ≤ 60 := ⟨(-k).toNat, by omega, by omega⟩
    have HK := Lib.hid hkN
    have hk3 : -60 ≤ k := by omega
    have hk4 : k < 0 := by omega
    have hk5 : k ≤ 60 := by omega
    clear hk hk1 hk2 hkN
    go_wp2_with fail
    go_loopw [7] (fun i wr => ∃ j : Nat, j ≤ N ∧ i = .int .i64 j ∧ Below w1.heap.size w1 wr ∧ MatAt wr Y (wrM (matL (rep j [65, 66, 65])))) (fun i _ => N - (intOf i).toNat)
    case atStart => exact ⟨0, by omega, rfl, HB4.out, by rw [show matL (rep 0 [65, 66, 65]) = oneM from rfl, wrM_one]; exact HA.out⟩
    case round =>
      obtain ⟨j, hj, rfl, hb, hA⟩ := hrel
      have HB5 := Lib.hid hb
      have HA5 := Lib.hid hA
      clear hb hA
      by_cases hlt : j < N
      · skip
        have c1 : (j : Int) < -k := by have := HK.out; omega
        have c0 : ¬ (j : Int) < k := by omega
        go_wp2_with fail
        go_loopw [9] (fun i wr2 => ∃ n : Nat, n ≤ 3 ∧ i = .int .i64 n ∧ Below w1.heap.size w1 wr2 ∧ MatAt wr2 Y (wrM (matL (rep j [65, 66, 65] ++ [65, 66, 65].take n)))) (fun i _ => 3 - (intOf i).toNat)
        case atStart => exact ⟨0, by omega, rfl, HB5.out, by simpa using HA5.out⟩
        case round =>
          obtain ⟨n, hn, rfl, hb, hA⟩ := hrel
          have HB6 := Lib.hid hb
          have HA6 := Lib.hid hA
          clear hb hA
          by_cases hltn : n < 3
          · have hx : ∃ d, [65, 66, 65][n]? = some d ∧ isL d := half_get (by decide) hltn
            obtain ⟨d, hd, hL⟩ := hx
            have HT := Lib.hid (wr_take (x := rep j [65, 66, 65]) hd)
            obtain ⟨hlt3, X⟩ := get_mk hd
            clear hd
            have T1 := Lib.hid (letter_on hL wr)
            generalize wrM (matL (rep j [65, 66, 65] ++ [65, 66, 65].take n)) = M at HT HA6
            generalize hM' : wrM (matL (rep j [65, 66, 65] ++ [65, 66, 65].take (n + 1))) = M' at HT
            have HM' := Lib.hid hM'
            clear hM'
            have T2 : Hid (∀ w, Below wr.heap.size wr w → Calls Tryd.prog 40 #[mval M, mval (ltM d)] w fun r w' => r = .returned (mval M') ∧ Below w.heap.size w w') := Lib.hid (by rw [HT.out]; exact times_on _ _ wr)
            have x0 := HA6.out.box.2
            have f0 := HA6.out.fz
            have Y0 := HA6.out.box.rg
            simp only [mcs] at x0 Y0
            go_wp2_with fail
            refine wp_region_qt 6 mixed (by kernel_rfl) ?_
            simp only [List.take_succ_cons, List.take_zero, List.drop_succ_cons, List.drop_zero]
            repeat (go_big_quiet_step (first | with_reducible exact rg_call T1.out _ _ | with_reducible exact rg_call T2.out _ _))
            refine wpQuiet_nil ?_
            intro w7 hb7
            have HB7 := Lib.hid (below_trans' HB6.out hb7)
            have HA7 := Lib.hid (HA6.out.below hb7)
            have x7 := HA7.out.box.2
            have f7 := HA7.out.fz
            simp only [mcs] at x7
            have HA8 := Lib.hid (HA7.out.set M')
            have HB8 := Lib.hid (below_set4 HB7.out HYw.out (.int .i64 M'.1) (.int .i64 M'.2.1) (.int .i64 M'.2.2.1) (.int .i64 M'.2.2.2))
            clear hb7 x0 f0 Y0 X T1 T2 HT
            go_wp2_with fail
            go_roundw
            case rel => exact ⟨n + 1, by omega, by go_num, HB8.out, by rw [HM'.out]; exact HA8.out⟩
            case measure => simp [intOf]; omega
          · obtain rfl : n = 3 := by omega
            have HA7 := Lib.hid (show MatAt wr Y (wrM (matL (rep (j + 1) [65, 66, 65]))) by rw [rep_succ']; exact HA6.out)
            clear HA6
            go_wp2_with fail
            go_roundw
            case rel => exact ⟨j + 1, by omega, by go_num, HB6.out, HA7.out⟩
            case measure => simp [intOf]; omega
      · obtain rfl : j = N := by omega
        have HA6 := Lib.hid (show MatAt wr Y (wrM (mulM (twM k) (matL (p.take 0)))) by
          have := HA5.out
          rw [matL_bw, ← HK.out] at this
          rw [List.take_zero, show matL [] = oneM from rfl, mul_oneM]
          exact this)
        clear HA5
        have c1 : ¬ (j : Int) < -k := by have := HK.out; omega
        have c0 : ¬ (j : Int) < k := by omega
        go_wp2_with fail

        go_loopw [10] (fun i wr2 => ∃ n : Nat, n ≤ p.length ∧ i = .int .i64 n ∧ Below w1.heap.size w1 wr2 ∧ MatAt wr2 Y (wrM (mulM (twM k) (matL (p.take n))))) (fun i _ => p.length - (intOf i).toNat)
        case atStart => exact ⟨0, by omega, rfl, HB5.out, HA6.out⟩
        case round =>
          obtain ⟨n, hn, rfl, hb, hA⟩ := hrel
          have HB7 := Lib.hid hb
          have HA7 := Lib.hid hA
          clear hb hA HA6 HB5
          by_cases hltn : n < p.length
          · obtain ⟨d, hd, hL⟩ : ∃ d, p[n]? = some d ∧ (d = 97 ∨ d = 98) := ⟨p[n], List.getElem?_eq_getElem hltn, HN.out.form.pos _ (List.getElem_mem hltn)⟩
            have HT := Lib.hid (wr_take2 (x := twM k) hd)
            obtain ⟨hlt3, X⟩ := get_mk hd
            have T1 := Lib.hid (letter_on (posL_word HN.out.form.pos d (List.mem_of_getElem? hd)) wr)
            generalize wrM (mulM (twM k) (matL (p.take n))) = M at HT HA7
            generalize hM' : wrM (mulM (twM k) (matL (p.take (n + 1)))) = M' at HT
            have HM' := Lib.hid hM'
            clear hM'
            have T2 : Hid (∀ w, Below wr.heap.size wr w → Calls Tryd.prog 40 #[mval M, mval (ltM d)] w fun r w' => r = .returned (mval M') ∧ Below w.heap.size w w') := Lib.hid (by rw [HT.out]; exact times_on _ _ wr)
            have x0 := HA7.out.box.2
            have f0 := HA7.out.fz
            have Y0 := HA7.out.box.rg
            simp only [mcs] at x0 Y0
            by_cases h2 : 2 ≤ n
            · have h2b : decide ((2 : Int) ≤ (n : Int)) = true := decide_eq_true (by omega)
              have wv1 : IntKind.i64.wrap ((n : Int) - 1) = ((n - 1 : Nat) : Int) := (IntWalk.i64_in _ (by omega)).trans (by omega)
              have wv2 : IntKind.i64.wrap ((n : Int) - 2) = ((n - 2 : Nat) : Int) := (IntWalk.i64_in _ (by omega)).trans (by omega)
              obtain ⟨d1, hd1, hL1⟩ : ∃ d, p[n - 1]? = some d ∧ (d = 97 ∨ d = 98) := ⟨p[n - 1], List.getElem?_eq_getElem (by omega), HN.out.form.pos _ (List.getElem_mem (by omega))⟩
              obtain ⟨d2, hd2, hL2⟩ : ∃ d, p[n - 2]? = some d ∧ (d = 97 ∨ d = 98) := ⟨p[n - 2], List.getElem?_eq_getElem (by omega), HN.out.form.pos _ (List.getElem_mem (by omega))⟩
              have hfree := free_three HN.out.free h2 hd hd1 hd2
              obtain ⟨hlt1, X1⟩ := get_mk hd1
              obtain ⟨hlt2, X2⟩ := get_mk hd2
              clear hd hd1 hd2
              rcases hL with rfl | rfl
              · rcases hL1 with rfl | rfl
                · rcases hL2 with rfl | rfl
                  · clear hfree
                    have XN : ((mkB p)[n]).toNat = 97 := by rw [X]; rfl
                    have XN1 : ((mkB p)[n - 1]).toNat = 97 := by rw [X1]; rfl
                    have XN2 : ((mkB p)[n - 2]).toNat = 97 := by rw [X2]; rfl
                    clear X1 X2
                    clear X
                    go_wp2_with fail
                    go_quiet (fail)
                    clear x0 f0 Y0 h2b wv1 wv2 XN1 XN2
                    have HA9 := Lib.hid (HA7.out.drewN nq)
                    have HB9 := Lib.hid (below_drewN' HB7.out nq)
                    clear HA7 HB7 T1 T2
                    generalize wr.drewN nq = wr2 at HA9 HB9 ⊢
                    have T1 : Hid (∀ w, Below wr2.heap.size wr2 w → Calls Tryd.prog 41 #[.int .u8 97] w fun r w' => r = .returned (mval (ltM 97)) ∧ Below w.heap.size w w') := Lib.hid (letter_on (c := 97) (by decide) wr2)
                    have T2 : Hid (∀ w, Below wr2.heap.size wr2 w → Calls Tryd.prog 40 #[mval M, mval (ltM 97)] w fun r w' => r = .returned (mval M') ∧ Below w.heap.size w w') := Lib.hid (by rw [HT.out]; exact times_on _ _ _)
                    have x0 := HA9.out.box.2
                    have f0 := HA9.out.fz
                    have Y0 := HA9.out.box.rg
                    simp only [mcs] at x0 Y0
                    go_wp2_with fail
                    refine wp_region_qt 6 mixed (by kernel_rfl) ?_
                    simp only [List.take_succ_cons, List.take_zero, List.drop_succ_cons, List.drop_zero]
                    repeat (go_big_quiet_step (first | with_reducible exact rg_call T1.out _ _ | with_reducible exact rg_call T2.out _ _))
                    refine wpQuiet_nil ?_
                    intro w7 hb7
                    have HB10 := Lib.hid (below_trans' HB9.out hb7)
                    have HA10 := Lib.hid (HA9.out.below hb7)
                    have x7 := HA10.out.box.2
                    have f7 := HA10.out.fz
                    simp only [mcs] at x7
                    have HA8 := Lib.hid (HA10.out.set M')
                    have HB8 := Lib.hid (below_set4 HB10.out HYw.out (.int .i64 M'.1) (.int .i64 M'.2.1) (.int .i64 M'.2.2.1) (.int .i64 M'.2.2.2))
                    clear hb7 x0 f0 Y0 T1 T2 HT XN hlt3
                    go_wp2_with fail
                    go_roundw
                    case rel => exact ⟨n + 1, by omega, by go_num, HB8.out, by rw [HM'.out]; exact HA8.out⟩
                    case measure => simp [intOf]; omega
                  · clear hfree
                    have XN : ((mkB p)[n]).toNat = 97 := by rw [X]; rfl
                    have XN1 : ((mkB p)[n - 1]).toNat = 97 := by rw [X1]; rfl
                    have XN2 : ((mkB p)[n - 2]).toNat = 98 := by rw [X2]; rfl
                    clear X1 X2
                    clear X
                    go_wp2_with fail
                    go_quiet (fail)
                    clear x0 f0 Y0 h2b wv1 wv2 XN1 XN2
                    have HA9 := Lib.hid (HA7.out.drewN nq)
                    have HB9 := Lib.hid (below_drewN' HB7.out nq)
                    clear HA7 HB7 T1 T2
                    generalize wr.drewN nq = wr2 at HA9 HB9 ⊢
                    have T1 : Hid (∀ w, Below wr2.heap.size wr2 w → Calls Tryd.prog 41 #[.int .u8 97] w fun r w' => r = .returned (mval (ltM 97)) ∧ Below w.heap.size w w') := Lib.hid (letter_on (c := 97) (by decide) wr2)
                    have T2 : Hid (∀ w, Below wr2.heap.size wr2 w → Calls Tryd.prog 40 #[mval M, mval (ltM 97)] w fun r w' => r = .returned (mval M') ∧ Below w.heap.size w w') := Lib.hid (by rw [HT.out]; exact times_on _ _ _)
                    have x0 := HA9.out.box.2
                    have f0 := HA9.out.fz
                    have Y0 := HA9.out.box.rg
                    simp only [mcs] at x0 Y0
                    go_wp2_with fail
                    refine wp_region_qt 6 mixed (by kernel_rfl) ?_
                    simp only [List.take_succ_cons, List.take_zero, List.drop_succ_cons, List.drop_zero]
                    repeat (go_big_quiet_step (first | with_reducible exact rg_call T1.out _ _ | with_reducible exact rg_call T2.out _ _))
                    refine wpQuiet_nil ?_
                    intro w7 hb7
                    have HB10 := Lib.hid (below_trans' HB9.out hb7)
                    have HA10 := Lib.hid (HA9.out.below hb7)
                    have x7 := HA10.out.box.2
                    have f7 := HA10.out.fz
                    simp only [mcs] at x7
                    have HA8 := Lib.hid (HA10.out.set M')
                    have HB8 := Lib.hid (below_set4 HB10.out HYw.out (.int .i64 M'.1) (.int .i64 M'.2.1) (.int .i64 M'.2.2.1) (.int .i64 M'.2.2.2))
                    clear hb7 x0 f0 Y0 T1 T2 HT XN hlt3
                    go_wp2_with fail
                    go_roundw
                    case rel => exact ⟨n + 1, by omega, by go_num, HB8.out, by rw [HM'.out]; exact HA8.out⟩
                    case measure => simp [intOf]; omega
                · rcases hL2 with rfl | rfl
                  · exact absurd hfree (by decide)
                  · clear hfree
                    have XN : ((mkB p)[n]).toNat = 97 := by rw [X]; rfl
                    have XN1 : ((mkB p)[n - 1]).toNat = 98 := by rw [X1]; rfl
                    have XN2 : ((mkB p)[n - 2]).toNat = 98 := by rw [X2]; rfl
                    clear X1 X2
                    clear X
                    go_wp2_with fail
                    go_quiet (fail)
                    clear x0 f0 Y0 h2b wv1 wv2 XN1 XN2
                    have HA9 := Lib.hid (HA7.out.drewN nq)
                    have HB9 := Lib.hid (below_drewN' HB7.out nq)
                    clear HA7 HB7 T1 T2
                    generalize wr.drewN nq = wr2 at HA9 HB9 ⊢
                    have T1 : Hid (∀ w, Below wr2.heap.size wr2 w → Calls Tryd.prog 41 #[.int .u8 97] w fun r w' => r = .returned (mval (ltM 97)) ∧ Below w.heap.size w w') := Lib.hid (letter_on (c := 97) (by decide) wr2)
                    have T2 : Hid (∀ w, Below wr2.heap.size wr2 w → Calls Tryd.prog 40 #[mval M, mval (ltM 97)] w fun r w' => r = .returned (mval M') ∧ Below w.heap.size w w') := Lib.hid (by rw [HT.out]; exact times_on _ _ _)
                    have x0 := HA9.out.box.2
                    have f0 := HA9.out.fz
                    have Y0 := HA9.out.box.rg
                    simp only [mcs] at x0 Y0
                    go_wp2_with fail
                    refine wp_region_qt 6 mixed (by kernel_rfl) ?_
                    simp only [List.take_succ_cons, List.take_zero, List.drop_succ_cons, List.drop_zero]
                    repeat (go_big_quiet_step (first | with_reducible exact rg_call T1.out _ _ | with_reducible exact rg_call T2.out _ _))
                    refine wpQuiet_nil ?_
                    intro w7 hb7
                    have HB10 := Lib.hid (below_trans' HB9.out hb7)
                    have HA10 := Lib.hid (HA9.out.below hb7)
                    have x7 := HA10.out.box.2
                    have f7 := HA10.out.fz
                    simp only [mcs] at x7
                    have HA8 := Lib.hid (HA10.out.set M')
                    have HB8 := Lib.hid (below_set4 HB10.out HYw.out (.int .i64 M'.1) (.int .i64 M'.2.1) (.int .i64 M'.2.2.1) (.int .i64 M'.2.2.2))
                    clear hb7 x0 f0 Y0 T1 T2 HT XN hlt3
                    go_wp2_with fail
                    go_roundw
                    case rel => exact ⟨n + 1, by omega, by go_num, HB8.out, by rw [HM'.out]; exact HA8.out⟩
                    case measure => simp [intOf]; omega
              · rcases hL1 with rfl | rfl
                · rcases hL2 with rfl | rfl
                  · clear hfree
                    have XN : ((mkB p)[n]).toNat = 98 := by rw [X]; rfl
                    have XN1 : ((mkB p)[n - 1]).toNat = 97 := by rw [X1]; rfl
                    have XN2 : ((mkB p)[n - 2]).toNat = 97 := by rw [X2]; rfl
                    clear X1 X2
                    clear X
                    go_wp2_with fail
                    go_quiet (fail)
                    clear x0 f0 Y0 h2b wv1 wv2 XN1 XN2
                    have HA9 := Lib.hid (HA7.out.drewN nq)
                    have HB9 := Lib.hid (below_drewN' HB7.out nq)
                    clear HA7 HB7 T1 T2
                    generalize wr.drewN nq = wr2 at HA9 HB9 ⊢
                    have T1 : Hid (∀ w, Below wr2.heap.size wr2 w → Calls Tryd.prog 41 #[.int .u8 98] w fun r w' => r = .returned (mval (ltM 98)) ∧ Below w.heap.size w w') := Lib.hid (letter_on (c := 98) (by decide) wr2)
                    have T2 : Hid (∀ w, Below wr2.heap.size wr2 w → Calls Tryd.prog 40 #[mval M, mval (ltM 98)] w fun r w' => r = .returned (mval M') ∧ Below w.heap.size w w') := Lib.hid (by rw [HT.out]; exact times_on _ _ _)
                    have x0 := HA9.out.box.2
                    have f0 := HA9.out.fz
                    have Y0 := HA9.out.box.rg
                    simp only [mcs] at x0 Y0
                    go_wp2_with fail
                    refine wp_region_qt 6 mixed (by kernel_rfl) ?_
                    simp only [List.take_succ_cons, List.take_zero, List.drop_succ_cons, List.drop_zero]
                    repeat (go_big_quiet_step (first | with_reducible exact rg_call T1.out _ _ | with_reducible exact rg_call T2.out _ _))
                    refine wpQuiet_nil ?_
                    intro w7 hb7
                    have HB10 := Lib.hid (below_trans' HB9.out hb7)
                    have HA10 := Lib.hid (HA9.out.below hb7)
                    have x7 := HA10.out.box.2
                    have f7 := HA10.out.fz
                    simp only [mcs] at x7
                    have HA8 := Lib.hid (HA10.out.set M')
                    have HB8 := Lib.hid (below_set4 HB10.out HYw.out (.int .i64 M'.1) (.int .i64 M'.2.1) (.int .i64 M'.2.2.1) (.int .i64 M'.2.2.2))
                    clear hb7 x0 f0 Y0 T1 T2 HT XN hlt3
                    go_wp2_with fail
                    go_roundw
                    case rel => exact ⟨n + 1, by omega, by go_num, HB8.out, by rw [HM'.out]; exact HA8.out⟩
                    case measure => simp [intOf]; omega
                  · exact absurd hfree (by decide)
                · rcases hL2 with rfl | rfl
                  · clear hfree
                    have XN : ((mkB p)[n]).toNat = 98 := by rw [X]; rfl
                    have XN1 : ((mkB p)[n - 1]).toNat = 98 := by rw [X1]; rfl
                    have XN2 : ((mkB p)[n - 2]).toNat = 97 := by rw [X2]; rfl
                    clear X1 X2
                    clear X
                    go_wp2_with fail
                    go_quiet (fail)
                    clear x0 f0 Y0 h2b wv1 wv2 XN1 XN2
                    have HA9 := Lib.hid (HA7.out.drewN nq)
                    have HB9 := Lib.hid (below_drewN' HB7.out nq)
                    clear HA7 HB7 T1 T2
                    generalize wr.drewN nq = wr2 at HA9 HB9 ⊢
                    have T1 : Hid (∀ w, Below wr2.heap.size wr2 w → Calls Tryd.prog 41 #[.int .u8 98] w fun r w' => r = .returned (mval (ltM 98)) ∧ Below w.heap.size w w') := Lib.hid (letter_on (c := 98) (by decide) wr2)
                    have T2 : Hid (∀ w, Below wr2.heap.size wr2 w → Calls Tryd.prog 40 #[mval M, mval (ltM 98)] w fun r w' => r = .returned (mval M') ∧ Below w.heap.size w w') := Lib.hid (by rw [HT.out]; exact times_on _ _ _)
                    have x0 := HA9.out.box.2
                    have f0 := HA9.out.fz
                    have Y0 := HA9.out.box.rg
                    simp only [mcs] at x0 Y0
                    go_wp2_with fail
                    refine wp_region_qt 6 mixed (by kernel_rfl) ?_
                    simp only [List.take_succ_cons, List.take_zero, List.drop_succ_cons, List.drop_zero]
                    repeat (go_big_quiet_step (first | with_reducible exact rg_call T1.out _ _ | with_reducible exact rg_call T2.out _ _))
                    refine wpQuiet_nil ?_
                    intro w7 hb7
                    have HB10 := Lib.hid (below_trans' HB9.out hb7)
                    have HA10 := Lib.hid (HA9.out.below hb7)
                    have x7 := HA10.out.box.2
                    have f7 := HA10.out.fz
                    simp only [mcs] at x7
                    have HA8 := Lib.hid (HA10.out.set M')
                    have HB8 := Lib.hid (below_set4 HB10.out HYw.out (.int .i64 M'.1) (.int .i64 M'.2.1) (.int .i64 M'.2.2.1) (.int .i64 M'.2.2.2))
                    clear hb7 x0 f0 Y0 T1 T2 HT XN hlt3
                    go_wp2_with fail
                    go_roundw
                    case rel => exact ⟨n + 1, by omega, by go_num, HB8.out, by rw [HM'.out]; exact HA8.out⟩
                    case measure => simp [intOf]; omega
                  · clear hfree
                    have XN : ((mkB p)[n]).toNat = 98 := by rw [X]; rfl
                    have XN1 : ((mkB p)[n - 1]).toNat = 98 := by rw [X1]; rfl
                    have XN2 : ((mkB p)[n - 2]).toNat = 98 := by rw [X2]; rfl
                    clear X1 X2
                    clear X
                    go_wp2_with fail
                    go_quiet (fail)
                    clear x0 f0 Y0 h2b wv1 wv2 XN1 XN2
                    have HA9 := Lib.hid (HA7.out.drewN nq)
                    have HB9 := Lib.hid (below_drewN' HB7.out nq)
                    clear HA7 HB7 T1 T2
                    generalize wr.drewN nq = wr2 at HA9 HB9 ⊢
                    have T1 : Hid (∀ w, Below wr2.heap.size wr2 w → Calls Tryd.prog 41 #[.int .u8 98] w fun r w' => r = .returned (mval (ltM 98)) ∧ Below w.heap.size w w') := Lib.hid (letter_on (c := 98) (by decide) wr2)
                    have T2 : Hid (∀ w, Below wr2.heap.size wr2 w → Calls Tryd.prog 40 #[mval M, mval (ltM 98)] w fun r w' => r = .returned (mval M') ∧ Below w.heap.size w w') := Lib.hid (by rw [HT.out]; exact times_on _ _ _)
                    have x0 := HA9.out.box.2
                    have f0 := HA9.out.fz
                    have Y0 := HA9.out.box.rg
                    simp only [mcs] at x0 Y0
                    go_wp2_with fail
                    refine wp_region_qt 6 mixed (by kernel_rfl) ?_
                    simp only [List.take_succ_cons, List.take_zero, List.drop_succ_cons, List.drop_zero]
                    repeat (go_big_quiet_step (first | with_reducible exact rg_call T1.out _ _ | with_reducible exact rg_call T2.out _ _))
                    refine wpQuiet_nil ?_
                    intro w7 hb7
                    have HB10 := Lib.hid (below_trans' HB9.out hb7)
                    have HA10 := Lib.hid (HA9.out.below hb7)
                    have x7 := HA10.out.box.2
                    have f7 := HA10.out.fz
                    simp only [mcs] at x7
                    have HA8 := Lib.hid (HA10.out.set M')
                    have HB8 := Lib.hid (below_set4 HB10.out HYw.out (.int .i64 M'.1) (.int .i64 M'.2.1) (.int .i64 M'.2.2.1) (.int .i64 M'.2.2.2))
                    clear hb7 x0 f0 Y0 T1 T2 HT XN hlt3
                    go_wp2_with fail
                    go_roundw
                    case rel => exact ⟨n + 1, by omega, by go_num, HB8.out, by rw [HM'.out]; exact HA8.out⟩
                    case measure => simp [intOf]; omega
            · have h2b : decide ((2 : Int) ≤ (n : Int)) = false := decide_eq_false (by omega)
              clear hd
              rcases hL with rfl | rfl
              · skip
                have XN : ((mkB p)[n]).toNat = 97 := by rw [X]; rfl
                clear X
                go_wp2_with fail
                go_quiet (fail)
                clear x0 f0 Y0 h2b
                have HA9 := Lib.hid (HA7.out.drewN nq)
                have HB9 := Lib.hid (below_drewN' HB7.out nq)
                clear HA7 HB7 T1 T2
                generalize wr.drewN nq = wr2 at HA9 HB9 ⊢
                have T1 : Hid (∀ w, Below wr2.heap.size wr2 w → Calls Tryd.prog 41 #[.int .u8 97] w fun r w' => r = .returned (mval (ltM 97)) ∧ Below w.heap.size w w') := Lib.hid (letter_on (c := 97) (by decide) wr2)
                have T2 : Hid (∀ w, Below wr2.heap.size wr2 w → Calls Tryd.prog 40 #[mval M, mval (ltM 97)] w fun r w' => r = .returned (mval M') ∧ Below w.heap.size w w') := Lib.hid (by rw [HT.out]; exact times_on _ _ _)
                have x0 := HA9.out.box.2
                have f0 := HA9.out.fz
                have Y0 := HA9.out.box.rg
                simp only [mcs] at x0 Y0
                go_wp2_with fail
                refine wp_region_qt 6 mixed (by kernel_rfl) ?_
                simp only [List.take_succ_cons, List.take_zero, List.drop_succ_cons, List.drop_zero]
                repeat (go_big_quiet_step (first | with_reducible exact rg_call T1.out _ _ | with_reducible exact rg_call T2.out _ _))
                refine wpQuiet_nil ?_
                intro w7 hb7
                have HB10 := Lib.hid (below_trans' HB9.out hb7)
                have HA10 := Lib.hid (HA9.out.below hb7)
                have x7 := HA10.out.box.2
                have f7 := HA10.out.fz
                simp only [mcs] at x7
                have HA8 := Lib.hid (HA10.out.set M')
                have HB8 := Lib.hid (below_set4 HB10.out HYw.out (.int .i64 M'.1) (.int .i64 M'.2.1) (.int .i64 M'.2.2.1) (.int .i64 M'.2.2.2))
                clear hb7 x0 f0 Y0 T1 T2 HT XN hlt3
                go_wp2_with fail
                go_roundw
                case rel => exact ⟨n + 1, by omega, by go_num, HB8.out, by rw [HM'.out]; exact HA8.out⟩
                case measure => simp [intOf]; omega
              · skip
                have XN : ((mkB p)[n]).toNat = 98 := by rw [X]; rfl
                clear X
                go_wp2_with fail
                go_quiet (fail)
                clear x0 f0 Y0 h2b
                have HA9 := Lib.hid (HA7.out.drewN nq)
                have HB9 := Lib.hid (below_drewN' HB7.out nq)
                clear HA7 HB7 T1 T2
                generalize wr.drewN nq = wr2 at HA9 HB9 ⊢
                have T1 : Hid (∀ w, Below wr2.heap.size wr2 w → Calls Tryd.prog 41 #[.int .u8 98] w fun r w' => r = .returned (mval (ltM 98)) ∧ Below w.heap.size w w') := Lib.hid (letter_on (c := 98) (by decide) wr2)
                have T2 : Hid (∀ w, Below wr2.heap.size wr2 w → Calls Tryd.prog 40 #[mval M, mval (ltM 98)] w fun r w' => r = .returned (mval M') ∧ Below w.heap.size w w') := Lib.hid (by rw [HT.out]; exact times_on _ _ _)
                have x0 := HA9.out.box.2
                have f0 := HA9.out.fz
                have Y0 := HA9.out.box.rg
                simp only [mcs] at x0 Y0
                go_wp2_with fail
                refine wp_region_qt 6 mixed (by kernel_rfl) ?_
                simp only [List.take_succ_cons, List.take_zero, List.drop_succ_cons, List.drop_zero]
                repeat (go_big_quiet_step (first | with_reducible exact rg_call T1.out _ _ | with_reducible exact rg_call T2.out _ _))
                refine wpQuiet_nil ?_
                intro w7 hb7
                have HB10 := Lib.hid (below_trans' HB9.out hb7)
                have HA10 := Lib.hid (HA9.out.below hb7)
                have x7 := HA10.out.box.2
                have f7 := HA10.out.fz
                simp only [mcs] at x7
                have HA8 := Lib.hid (HA10.out.set M')
                have HB8 := Lib.hid (below_set4 HB10.out HYw.out (.int .i64 M'.1) (.int .i64 M'.2.1) (.int .i64 M'.2.2.1) (.int .i64 M'.2.2.2))
                clear hb7 x0 f0 Y0 T1 T2 HT XN hlt3
                go_wp2_with fail
                go_roundw
                case rel => exact ⟨n + 1, by omega, by go_num, HB8.out, by rw [HM'.out]; exact HA8.out⟩
                case measure => simp [intOf]; omega
          · obtain rfl : n = p.length := by omega
            have hfin : wrM (mulM (twM k) (matL (p.take p.length))) = matL (liB t) := by
              rw [List.take_length, ← HN.out.form.mat]
              exact wrM_id ((matL_b60 (okW_iff.1 HO.out).2 (by rw [li_size]; exact ht60)).mono (by decide))
            rw [hfin] at HA7
            have HC := Lib.hid (show crossR t = 3 * k + (p.length : Int) by unfold crossR; rw [HO.out]; exact HN.out.form.cnt)
            clear hfin
            go_wp2_with fail
            with_reducible refine (matrix_any t _ (by omega)).mono ?_
            rintro _ w9 ⟨rfl, hb9⟩
            rw [matR_ok HO.out, ansE_ok HO.out]
            have HA8 := Lib.hid (HA7.out.below hb9)
            have HB8 := Lib.hid (below_trans' HB7.out hb9)
            clear hb9 HA7 HB7
            generalize matL (liB t) = MM at HA8 ⊢
            go_wp2_with fail
            have HA9 := Lib.hid (HA8.out.below (belowA w9 (.cells (mcs MM) 34)))
            have HE9 := Lib.hid (MatAt.new w9 MM)
            have HB9 := Lib.hid (below_trans' HB8.out (belowA w9 (.cells (mcs MM) 34)))
            generalize w9.alloc (.cells (mcs MM) 34) = w10 at HA9 HE9 HB9 ⊢
            generalize w9.heap.size = Y2 at HE9 ⊢
            with_reducible refine (crossings_any t _ (by omega)).mono ?_
            rintro _ w11 ⟨rfl, hb11⟩
            rw [HC.out, ansE_ok HO.out]
            have HA10 := Lib.hid (HA9.out.below hb11)
            have HE10 := Lib.hid (HE9.out.below hb11)
            have HB10 := Lib.hid (below_trans' HB9.out hb11)
            have x0 := HA10.out.box.2
            have y0 := HE10.out.box.2
            simp only [mcs] at x0 y0
            have EQ : ∀ w, (binOp .eql 34 (mval MM) (mval MM)).run Tryd.prog w = .ok (.bool true) w := fun w => by rw [eql34, decide_eq_true rfl]
            clear hb11 HA8 HA9 HE9 HC
            go_wp2_with fail
            with_reducible refine (known_any _ (HM.out.below HP.out HB10.out)).mono ?_
            rintro _ wk ⟨rfl, hbk⟩
            have HBK := Lib.hid (below_trans' HB10.out hbk)
            clear hbk
            go_wp2_with fail
            go_ret
            exact ⟨rfl, HBK.out⟩
end Go.Proofs.YtgkgloafjhiakaaDoor
