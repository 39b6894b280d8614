/- Walks: what turns along the rim of a region, the reference's; the law FlowRims. -/
import Derived.Test.YtahmdnboeenfkaaW23
namespace Go.Proofs.Ytahmdnboeenfkaa
open Go.RowKit Go.Sort

theorem edgeV_bd (f : Fld) (l : List Plc) (e : Edg) : -8 ≤ edgeV f l e ∧ edgeV f l e ≤ 8 := by
  have := trn_bd f e
  unfold edgeV
  repeat' split
  all_goals omega
def rimS (f : Fld) (l : List Plc) (k : Nat) : Int := rimR f l ((edgesR f.W f.H f.W.toNat).take k)
theorem rimS_bd (f : Fld) (l : List Plc) (k : Nat) : -(8 * (k : Int)) ≤ rimS f l k ∧ rimS f l k ≤ 8 * (k : Int) := by
  have := lsum_bd (g := edgeV f l) (b := 8) (fun e => edgeV_bd f l e) ((edgesR f.W f.H f.W.toNat).take k)
  rw [List.length_take] at this
  unfold rimS rimR
  omega

set_option maxRecDepth 100000 in
theorem refRim_any (v : FV) (A : Option Addr) (n c : Nat) (l : List Plc) (w : World) (hv : v.In w) (hl : Reads w w.heap.size 2 A n (plcs l)) (hn : n ≤ 1000000) :
    Calls Try.prog 36 #[v.val, .slice A n c] w fun r w' => r = .returned (.tuple #[.int .i64 (rimsR v.f l).1, .int .i64 (rimsR v.f l).2]) ∧ Below w.heap.size w w' := by
  have HL := Lib.hid hl
  have HVv := Lib.hid hv
  have hnn : n ≤ 9223372036854775807 := by omega
  clear hv hl
  go_enter Try.func36, Try.ntmps36
  dsimp only [FV.val, eval_]
  go_wp2_with fail
  refine (region_any v A n c l _ (HVv.out.below (belowA _ _)) (HL.out.on (belowA _ _)) (by omega)).mono ?_
  rintro r w1 ⟨rfl, hb1⟩
  have b0 := (Box.new _ _ _).below hb1
  have hw1 := Lib.hid (below1 _ hb1)
  clear hb1
  by_cases hz : regE v.f l = 0
  case neg =>
    have hz' : (regE v.f l != 0) = true := by simpa using hz
    have HR := Lib.hid (rimsR_bad hz)
    clear hz
    go_wp2_with fail
    go_ret2
    exact ⟨by rw [HR.out]; rfl, hw1.out⟩
  obtain ⟨hv0, hs0, hn0⟩ := regE_zero hz
  have ok := Lib.hid (okf_of_valid hv0)
  have hz' : (regE v.f l != 0) = false := by simpa using hz
  have HR := Lib.hid (show rimsR v.f l = (rimR v.f l (edgesR v.f.W v.f.H v.f.W.toNat), 0) by rw [rimsR_ok hz, rimR_eq v.f hn0 hs0])
  clear hz hv0 hs0 hn0
  have c0 := b0.at
  go_wp2_with fail
  clear c0
  refine (refEdges_any v _ ok.out.w1 ok.out.w2 ok.out.h1 ok.out.h2).mono ?_
  rintro r w2 ⟨B, d, rfl, hre, hb2⟩
  have hle := edgesR_le v.f.W v.f.H v.f.W.toNat ok.out.h2
  have okw := ok.out.w2
  obtain ⟨es, hes⟩ : ∃ es, es = edgesR v.f.W v.f.H v.f.W.toNat := ⟨_, rfl⟩
  rw [← hes] at hre hle ⊢
  have HES := Lib.hid hes
  replace HR := Lib.hid (show rimsR v.f l = (rimR v.f l es, 0) by rw [HR.out, ← hes])
  replace b0 := b0.below hb2
  replace hw1 := Lib.hid (below_trans' hw1.out hb2)
  have HV1 := Lib.hid (HVv.out.below hw1.out)
  have HL1 := Lib.hid (HL.out.on hw1.out)
  have HE1 := Lib.hid hre
  have hm : es.length ≤ 288 := by omega
  clear hb2 hre hle hes okw
  go_wp2_with fail
  go_loopw [7, 9] (fun s i wr => ∃ k : Nat, k ≤ es.length ∧ i = .int .i64 k ∧ s = .int .i64 (rimR v.f l (es.take k)) ∧ Below w2.heap.size w2 wr) (fun _ i _ => es.length - (intOf i).toNat)
  case atStart => exact ⟨0, by omega, rfl, by simp [rimR, lsum], Below.refl _ _⟩
  case round =>
    obtain ⟨k, hk, rfl, rfl, hb0⟩ := hrel
    have hbel := Lib.hid hb0
    have b2 := b0.below hb0
    have HEr := Lib.hid (HE1.out.on hb0)
    have HLr := Lib.hid (HL1.out.on hb0)
    have HVr := Lib.hid (HV1.out.below hb0)
    clear hb0
    by_cases hlt : k < es.length
    · obtain ⟨ad, e, e1, hbk, hx0, d0, d1, d2⟩ := psat HEr.out (k := k) hlt
      have X := fun w => ix23 (c := d) e1 hlt w
      have HSU := Lib.hid (show rimR v.f l (es.take (k + 1)) = rimR v.f l (es.take k) + edgeV v.f l e from lsum_take_succ _ hx0)
      have hib := lsum_bd (g := edgeV v.f l) (b := 8) (fun e => edgeV_bd v.f l e) (es.take k)
      rw [List.length_take] at hib
      have hie := Lib.hid (show isE v.f.W v.f.H e = true from mem_edgesR.1 (by rw [← HES.out]; exact List.mem_of_getElem? hx0))
      clear hx0 e1
      have hsm : rimR v.f l (es.take k) = lsum (edgeV v.f l) (es.take k) := rfl
      rw [← hsm] at hib
      clear hsm
      generalize rimR v.f l (es.take k) = S at hib HSU ⊢
      have hS0 : -5000 ≤ S := by omega
      have hS1 : S ≤ 5000 := by omega
      have hew := hie.out
      unfold isE at hew
      rw [decide_eq_true_eq] at hew
      have okw := ok.out.w2
      have okh := ok.out.h2
      have x0 : 0 ≤ e.1 := by omega
      have x1 : e.1 ≤ 12 := by omega
      have y0 : 0 ≤ e.2.1 := by omega
      have y1 : e.2.1 ≤ 12 := by omega
      have u01 : e.2.2 = 0 ∨ e.2.2 = 1 := by omega
      obtain ⟨t0, t1⟩ := trn_bd v.f e
      clear hib hew okw okh
      go_wp2_with fail
      refine wp_gen (fun W => Box W wr.heap.size #[.int .i64 e.1, .int .i64 e.2.1, .int .i64 e.2.2] ∧ Below wr.heap.size wr W) ⟨Box.new _ _ _, belowA _ _⟩ ?_
      rintro w3 ⟨be, hb3⟩
      have hbel3 := Lib.hid (below_trans' hbel.out hb3)
      have HL3 := Lib.hid (HLr.out.on hb3)
      have HV3 := Lib.hid (HVr.out.below hb3)
      have b3 := b2.below hb3
      clear hb3 d0 d1 d2 X
      have c3 := be.rg
      have q0 : ∀ x y w4, Below w3.heap.size w3 w4 → Calls Try.prog 77 #[.slice A n c, .int .i64 x, .int .i64 y] w4 fun r w' => r = .returned (.bool (decide ((x, y) ∈ l))) ∧ Below w4.heap.size w4 w' := fun x y w4 hb => named_any A n c l x y w4 (HL3.out.on hb) hnn
      have Q0 := Lib.hid q0
      clear q0
      refine wp_region_qb mixed (by kernel_rfl) ?_
      repeat (go_big_quiet_step (first | exact rg_call (Q0.out _ _) _ _))
      refine wpQuiet_nil ?_
      intro w4 hb4
      have hbel4 := Lib.hid (below_trans' hbel3.out hb4)
      have HL4 := Lib.hid (HL3.out.on hb4)
      have HV4 := Lib.hid (HV3.out.below hb4)
      replace be := be.below hb4
      replace b3 := b3.below hb4
      clear hb4 c3 Q0
      have ce := be.at
      rcases u01 with u | u
      · have g0 : (e.2.2 == 1) = false := by rw [u]; rfl
        have HVAL := Lib.hid (show edgeV v.f l e = (if (e.1, e.2.1) ∈ l then v.f.trn e else 0) - (if (e.1, e.2.1 - 1) ∈ l then v.f.trn e else 0) by unfold edgeV; rw [if_neg (by omega)])
        clear u
        have ce3 := fun o => (be.alloc o).at
        have cf := b3.at
        cases h1 : decide ((e.1, e.2.1) ∈ l)
        all_goals cases h2 : decide ((e.1, e.2.1 - 1) ∈ l)
        all_goals
          have H1 := Lib.hid h1
          have H2 := Lib.hid h2
          clear h1 h2
          go_wp2_with (go_at_call 65; refine (turning_any v e _ HV4.out ok.out hie.out).mono ?_; rintro r w5 ⟨rfl, hb5⟩; have HB5 := Lib.hid hb5; clear hb5)
          go_roundw
          case rel =>
            refine ⟨k + 1, by omega, by go_num, congrArg _ ?_, ?_⟩
            · rw [HSU.out, HVAL.out]
              have h1 := H1.out
              have h2 := H2.out
              simp only [decide_eq_true_eq, decide_eq_false_iff_not] at h1 h2
              simp only [h1, h2, if_true, if_false]
              omega
            · first | exact hbel4.out | exact below_trans' hbel4.out HB5.out
          case measure => simp [intOf]; omega
      · have g0 : (e.2.2 == 1) = true := by rw [u]; rfl
        have HVAL := Lib.hid (show edgeV v.f l e = (if (e.1 - 1, e.2.1) ∈ l then v.f.trn e else 0) - (if (e.1, e.2.1) ∈ l then v.f.trn e else 0) by unfold edgeV; rw [if_pos u])
        clear u
        go_wp2_with fail
        clear ce
        have c3 := be.rg
        have q0 : ∀ x y w5, Below w4.heap.size w4 w5 → Calls Try.prog 77 #[.slice A n c, .int .i64 x, .int .i64 y] w5 fun r w' => r = .returned (.bool (decide ((x, y) ∈ l))) ∧ Below w5.heap.size w5 w' := fun x y w5 hb => named_any A n c l x y w5 (HL4.out.on hb) hnn
        have Q0 := Lib.hid q0
        clear q0
        refine wp_region_qb mixed (by kernel_rfl) ?_
        repeat (go_big_quiet_step (first | exact rg_call (Q0.out _ _) _ _))
        refine wpQuiet_nil ?_
        intro w5 hb5
        have hbel5 := Lib.hid (below_trans' hbel4.out hb5)
        have HV5 := Lib.hid (HV4.out.below hb5)
        replace be := be.below hb5
        replace b3 := b3.below hb5
        clear hb5 c3 Q0
        have ce := be.at
        have cf := b3.at
        cases h1 : decide ((e.1 - 1, e.2.1) ∈ l)
        all_goals cases h2 : decide ((e.1, e.2.1) ∈ l)
        all_goals
          have H1 := Lib.hid h1
          have H2 := Lib.hid h2
          clear h1 h2
          go_wp2_with (go_at_call 65; refine (turning_any v e _ HV5.out ok.out hie.out).mono ?_; rintro r w6 ⟨rfl, hb6⟩; have HB6 := Lib.hid hb6; clear hb6)
          go_roundw
          case rel =>
            refine ⟨k + 1, by omega, by go_num, congrArg _ ?_, ?_⟩
            · rw [HSU.out, HVAL.out]
              have h1 := H1.out
              have h2 := H2.out
              simp only [decide_eq_true_eq, decide_eq_false_iff_not] at h1 h2
              simp only [h1, h2, if_true, if_false]
              omega
            · first | exact hbel5.out | exact below_trans' hbel5.out HB6.out
          case measure => simp [intOf]; omega
    · have HE := Lib.hid (show es.take k = es from List.take_of_length_le (by omega))
      go_wp2_with fail
      go_ret2
      exact ⟨by rw [HR.out, HE.out]; rfl, below_trans' hw1.out hbel.out⟩

theorem lawRims (v : FV) (A : Option Addr) (n c : Nat) (l : List Plc) (w : World) (hv : v.In w) (hl : Reads w w.heap.size 2 A n (plcs l)) (hn : n ≤ 9223372036854775807) (hc : n ≤ c) :
    Calls Try.prog 10 #[v.val, .slice A n c] w fun r w' => r = .returned (.bool true) ∧ Below w.heap.size w w' := by
  have HV := Lib.hid hv
  have HL := Lib.hid hl
  have hlen := hl.1
  rw [plcs_length] at hlen
  have l2 : l.length ≤ n := by omega
  clear hv hl hlen
  go_enter Try.func10, Try.ntmps10
  dsimp only [FV.val, eval_]
  go_wp2_with fail
  refine (long_any v _ (HV.out.below (belowA _ _))).mono ?_
  rintro r w1 ⟨rfl, hb1⟩
  have b0 := (Box.new _ _ _).below hb1
  have hw1 := Lib.hid (below1 _ hb1)
  clear hb1
  cases hlong : longF v.f
  case true =>
    go_wp2_with fail
    refine (known_any _).mono ?_
    rintro r w2 ⟨rfl, hb2⟩
    go_wp2_with fail
    go_ret
    exact ⟨rfl, below_trans' hw1.out hb2⟩
  clear hlong
  by_cases hmany : 200 < n
  · go_wp2_with fail
    refine (known_any _).mono ?_
    rintro r w2 ⟨rfl, hb2⟩
    go_wp2_with fail
    go_ret
    exact ⟨rfl, below_trans' hw1.out hb2⟩
  have c0 := b0.at
  go_wp2_with fail
  clear c0
  refine (Inside_any v A n c l _ (HV.out.below hw1.out) (HL.out.on hw1.out) (by omega) hc).mono ?_
  rintro r w2 ⟨rfl, hb2⟩
  replace b0 := b0.below hb2
  replace hw1 := Lib.hid (below_trans' hw1.out hb2)
  clear hb2
  have c0 := b0.at
  go_wp2_with fail
  clear c0
  refine (refInside_any v A n c l _ (HV.out.below hw1.out) (HL.out.on hw1.out) (by omega)).mono ?_
  rintro r w2 ⟨rfl, hb2⟩
  replace b0 := b0.below hb2
  replace hw1 := Lib.hid (below_trans' hw1.out hb2)
  clear hb2
  have c0 := b0.at
  go_wp2_with fail
  clear c0
  refine (Rim_any v A n c l _ (HV.out.below hw1.out) (HL.out.on hw1.out) (by omega) hc).mono ?_
  rintro r w2 ⟨rfl, hb2⟩
  replace b0 := b0.below hb2
  replace hw1 := Lib.hid (below_trans' hw1.out hb2)
  clear hb2
  have c0 := b0.at
  go_wp2_with fail
  clear c0
  refine (refRim_any v A n c l _ (HV.out.below hw1.out) (HL.out.on hw1.out) (by omega)).mono ?_
  rintro r w2 ⟨rfl, hb2⟩
  replace hw1 := Lib.hid (below_trans' hw1.out hb2)
  clear hb2 b0
  rw [rimsR_four]
  have hb : -4000 ≤ (insR v.f l).1 ∧ (insR v.f l).1 ≤ 4000 := by
    unfold insR
    split
    · simp
    · have := inP_bd v.f l
      simp only; omega
  obtain ⟨i0, i1⟩ := hb
  generalize (insR v.f l).1 = z at i0 i1 ⊢
  generalize (insR v.f l).2 = y
  generalize (rimsR v.f l).2 = x
  go_wp2_with fail
  refine (known_any _).mono ?_
  rintro r w4 ⟨rfl, hb2⟩
  have HB := Lib.hid hb2
  clear hb2
  go_wp2_with fail
  go_ret
  exact ⟨rfl, below_trans' hw1.out HB.out⟩
theorem lawRimsR (v : FV) (A : Option Addr) (n c : Nat) (l : List Plc) (w : World) (hv : v.In w) (hl : (Reads w w.heap.size 2 A n (plcs l) ∧ n ≤ 9223372036854775807 ∧ ∀ q ∈ l, Bd q.1 ∧ Bd q.2) ∧ n ≤ c) :
    Calls Try.prog 10 #[v.val, .slice A n c] w fun r w' => r = .returned (.bool true) ∧ Below w.heap.size w w' := lawRims v A n c l w hv hl.1.1 hl.1.2.1 hl.2
end Go.Proofs.Ytahmdnboeenfkaa
