/- Walks: the sum of the indices inside of a region, on both sides. -/
import Derived.Test.YtahmdnboeenfkaaW21
namespace Go.Proofs.Ytahmdnboeenfkaa
open Go.RowKit Go.Sort

theorem rnd_bd4 (f : Fld) (x y : Int) : -16 ≤ f.rnd x y ∧ f.rnd x y ≤ 16 := rnd_bd f x y
theorem tdiv_bd (f : Fld) (x y : Int) : -4 ≤ (f.rnd x y).tdiv 4 ∧ (f.rnd x y).tdiv 4 ≤ 4 := by
  have := rnd_four f x y
  have := rnd_bd f x y
  omega
theorem insR_bad {f : Fld} {l : List Plc} (h : regE f l ≠ 0) : insR f l = (0, regE f l) := by unfold insR; rw [if_pos h]
theorem insR_ok {f : Fld} {l : List Plc} (h : regE f l = 0) : insR f l = (inP f l, 0) := by unfold insR; rw [if_neg (by simpa using h)]
theorem rimsR_bad {f : Fld} {l : List Plc} (h : regE f l ≠ 0) : rimsR f l = (0, regE f l) := by unfold rimsR; rw [if_pos h]
theorem rimsR_ok {f : Fld} {l : List Plc} (h : regE f l = 0) : rimsR f l = (rnds f l, 0) := by unfold rimsR; rw [if_neg (by simpa using h)]
theorem inP_bd (f : Fld) (l : List Plc) : -(4 * (l.length : Int)) ≤ inP f l ∧ inP f l ≤ 4 * (l.length : Int) := lsum_bd (g := fun p : Plc => (f.rnd p.1 p.2).tdiv 4) (b := 4) (fun p => tdiv_bd f p.1 p.2) l
theorem rnds_bd (f : Fld) (l : List Plc) : -(16 * (l.length : Int)) ≤ rnds f l ∧ rnds f l ≤ 16 * (l.length : Int) := lsum_bd (g := fun p : Plc => f.rnd p.1 p.2) (b := 16) (fun p => rnd_bd f p.1 p.2) l

theorem Inside_any (v : FV) (A : Option Addr) (n c : Nat) (l : List Plc) (w : World) (hv : v.In w) (hl : Reads w w.heap.size 2 A n (plcs l)) (hn : n ≤ 1000000) (hc : n ≤ c) :
    Calls Try.prog 33 #[v.val, .slice A n c] w fun r w' => r = .returned (.tuple #[.int .i64 (insR v.f l).1, .int .i64 (insR v.f l).2]) ∧ Below w.heap.size w w' := by
  have hlen := hl.1
  rw [plcs_length] at hlen
  have l1 : n ≤ l.length := by omega
  have l2 : l.length ≤ n := by omega
  clear hlen
  have HL := Lib.hid hl
  have HVv := Lib.hid hv
  clear hv hl
  go_enter Try.func33, Try.ntmps33
  dsimp only [FV.val, eval_]
  go_wp2_with fail
  refine (squares_any v A n c l _ (HVv.out.below (belowA _ _)) (HL.out.on (belowA _ _)) (by omega) hc).mono ?_
  rintro r w1 ⟨rfl, hb1⟩
  have b0 := (Box.new _ _ _).below hb1
  have hw1 := Lib.hid (below1 _ hb1)
  clear hb1
  by_cases hz : regE v.f l = 0
  case neg =>
    have hz' : (regE v.f l != 0) = true := by simpa using hz
    have HR := Lib.hid (insR_bad hz)
    clear hz
    go_wp2_with fail
    go_ret2
    exact ⟨by rw [HR.out]; rfl, hw1.out⟩
  obtain ⟨hv0, hs0, hn0⟩ := regE_zero hz
  have ok := Lib.hid (okf_of_valid hv0)
  have HS := Lib.hid hs0
  have hz' : (regE v.f l != 0) = false := by simpa using hz
  have HR := Lib.hid (insR_ok hz)
  clear hz hv0 hs0 hn0
  go_wp2_with fail
  have HV1 := Lib.hid (HVv.out.below hw1.out)
  have HL1 := Lib.hid (HL.out.on hw1.out)
  go_loopw [7, 18] (fun s i wr => ∃ k : Nat, k ≤ n ∧ i = .int .i64 k ∧ s = .int .i64 (inP v.f (l.take k)) ∧ Below w1.heap.size w1 wr) (fun _ i _ => n - (intOf i).toNat)
  case atStart => exact ⟨0, by omega, rfl, by simp [inP, lsum], Below.refl _ _⟩
  case round =>
    obtain ⟨k, hk, rfl, rfl, hb0⟩ := hrel
    have hbel := Lib.hid hb0
    have b2 := b0.below hb0
    have HLr := Lib.hid (HL1.out.on hb0)
    have HVr := Lib.hid (HV1.out.below hb0)
    clear hb0
    have hib := inP_bd v.f (l.take k)
    rw [List.length_take] at hib
    by_cases hlt : k < n
    · obtain ⟨ad, q, e1, hbk, hx0, d0, d1⟩ := plat HLr.out (k := k) (by omega)
      have X := fun w => ix45 (c := c) e1 hlt w
      have HSU := Lib.hid (show inP v.f (l.take (k + 1)) = inP v.f (l.take k) + (v.f.rnd q.1 q.2).tdiv 4 from lsum_take_succ _ hx0)
      have hsq := Lib.hid (HS.out q (List.mem_of_getElem? hx0))
      have htb := tdiv_bd v.f q.1 q.2
      clear hx0 e1
      generalize inP v.f (l.take k) = S at hib HSU ⊢
      have hS0 : -4000000 ≤ S := by omega
      have hS1 : S ≤ 4000000 := by omega
      obtain ⟨t0, t1⟩ := htb
      clear hib
      have c0 := b2.at
      have c1 := fun o => (b2.alloc o).at
      go_wp2_with fail
      refine (index_any v q.1 q.2 _ (HVr.out.below (belowA _ _)) ok.out hsq.out).mono ?_
      rintro r w4 ⟨rfl, hb4⟩
      have hbel4 := Lib.hid (below_trans' hbel.out (below_trans' (belowA _ _) hb4))
      clear hb4 c0 c1 d0 d1 X
      go_wp2_with fail
      go_roundw
      case rel => exact ⟨k + 1, by omega, by go_num, by rw [HSU.out], hbel4.out⟩
      case measure => simp [intOf]; omega
    · have HE := Lib.hid (show l.take k = l from List.take_of_length_le (by omega))
      clear hib
      go_wp2_with fail
      go_ret2
      exact ⟨by rw [HR.out, HE.out]; rfl, below_trans' hw1.out hbel.out⟩

theorem refInside_any (v : FV) (A : Option Addr) (n c : Nat) (l : List Plc) (w : World) (hv : v.In w) (hl : Reads w w.heap.size 2 A n (plcs l)) (hn : n ≤ 1000000) :
    Calls Try.prog 34 #[v.val, .slice A n c] w fun r w' => r = .returned (.tuple #[.int .i64 (insR v.f l).1, .int .i64 (insR v.f l).2]) ∧ Below w.heap.size w w' := by
  have hlen := hl.1
  rw [plcs_length] at hlen
  have l1 : n ≤ l.length := by omega
  have l2 : l.length ≤ n := by omega
  clear hlen
  have HL := Lib.hid hl
  have HVv := Lib.hid hv
  clear hv hl
  go_enter Try.func34, Try.ntmps34
  dsimp only [FV.val, eval_]
  go_wp2_with fail
  refine (region_any v A n c l _ (HVv.out.below (belowA _ _)) (HL.out.on (belowA _ _)) (by omega)).mono ?_
  rintro r w1 ⟨rfl, hb1⟩
  have b0 := (Box.new _ _ _).below hb1
  have hw1 := Lib.hid (below1 _ hb1)
  clear hb1
  by_cases hz : regE v.f l = 0
  case neg =>
    have hz' : (regE v.f l != 0) = true := by simpa using hz
    have HR := Lib.hid (insR_bad hz)
    clear hz
    go_wp2_with fail
    go_ret2
    exact ⟨by rw [HR.out]; rfl, hw1.out⟩
  obtain ⟨hv0, hs0, hn0⟩ := regE_zero hz
  have ok := Lib.hid (okf_of_valid hv0)
  have HS := Lib.hid hs0
  have hz' : (regE v.f l != 0) = false := by simpa using hz
  have HR := Lib.hid (insR_ok hz)
  clear hz hv0 hs0 hn0
  go_wp2_with fail
  have HV1 := Lib.hid (HVv.out.below hw1.out)
  have HL1 := Lib.hid (HL.out.on hw1.out)
  go_loopw [7, 8] (fun s i wr => ∃ k : Nat, k ≤ n ∧ i = .int .i64 k ∧ s = .int .i64 (rnds v.f (l.take k)) ∧ Below w1.heap.size w1 wr) (fun _ i _ => n - (intOf i).toNat)
  case atStart => exact ⟨0, by omega, rfl, by simp [rnds, lsum], Below.refl _ _⟩
  case round =>
    obtain ⟨k, hk, rfl, rfl, hb0⟩ := hrel
    have hbel := Lib.hid hb0
    have b2 := b0.below hb0
    have HLr := Lib.hid (HL1.out.on hb0)
    have HVr := Lib.hid (HV1.out.below hb0)
    clear hb0
    have hib := rnds_bd v.f (l.take k)
    rw [List.length_take] at hib
    by_cases hlt : k < n
    · obtain ⟨ad, q, e1, hbk, hx0, d0, d1⟩ := plat HLr.out (k := k) (by omega)
      have X := fun w => ix45 (c := c) e1 hlt w
      have HSU := Lib.hid (show rnds v.f (l.take (k + 1)) = rnds v.f (l.take k) + v.f.rnd q.1 q.2 from lsum_take_succ _ hx0)
      have hsq := Lib.hid (HS.out q (List.mem_of_getElem? hx0))
      have htb := rnd_bd v.f q.1 q.2
      clear hx0 e1
      generalize rnds v.f (l.take k) = S at hib HSU ⊢
      have hS0 : -16000000 ≤ S := by omega
      have hS1 : S ≤ 16000000 := by omega
      obtain ⟨t0, t1⟩ := htb
      clear hib
      go_wp2_with fail
      have c2 := b2.rg
      have f0 := rg_cell d0
      have f1 := rg_cell d1
      have q0 : ∀ w4, Below wr.heap.size wr w4 → Calls Try.prog 70 #[v.val, .int .i64 q.1, .int .i64 q.2] w4 fun r w' => r = .returned (.int .i64 (v.f.rnd q.1 q.2)) ∧ Below w4.heap.size w4 w' := fun w4 hb => round_any v q.1 q.2 w4 (HVr.out.below hb) ok.out hsq.out
      have Q0 := Lib.hid q0
      clear q0 d0 d1
      refine wp_region_qb mixed (by kernel_rfl) ?_
      repeat (go_big_quiet_step (exact rg_call Q0.out _ _))
      refine wpQuiet_nil ?_
      intro w4 hb4
      have hbel4 := Lib.hid (below_trans' hbel.out hb4)
      clear hb4 c2 f0 f1 X
      go_wp2_with fail
      go_roundw
      case rel => exact ⟨k + 1, by omega, by go_num, by rw [HSU.out], hbel4.out⟩
      case measure => simp [intOf]; omega
    · have HE := Lib.hid (show l.take k = l from List.take_of_length_le (by omega))
      have hq := Lib.hid (show (rnds v.f l).tdiv 4 = inP v.f l by rw [inP_four, Int.mul_tdiv_cancel_left _ (by omega)])
      rw [HE.out] at hib ⊢
      have hS0 : -16000000 ≤ rnds v.f l := by omega
      have hS1 : rnds v.f l ≤ 16000000 := by omega
      clear hib
      go_wp2_with fail
      go_ret2
      exact ⟨by rw [HR.out, ← hq.out]; rfl, below_trans' hw1.out hbel.out⟩
end Go.Proofs.Ytahmdnboeenfkaa
