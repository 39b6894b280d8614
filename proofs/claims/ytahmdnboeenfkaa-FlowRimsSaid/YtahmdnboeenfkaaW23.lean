/- Walks: what turns along the rim of a region, the program's. -/
import Derived.Test.YtahmdnboeenfkaaW22
namespace Go.Proofs.Ytahmdnboeenfkaa
open Go.RowKit Go.Sort

def othA (q : Plc) : Array Value := #[.int .i64 q.1, .int .i64 (q.2 - 1), .int .i64 (q.1 + 1), .int .i64 q.2, .int .i64 q.1, .int .i64 (q.2 + 1), .int .i64 (q.1 - 1), .int .i64 q.2]
set_option maxRecDepth 4000 in
theorem side_k (f : Fld) (q : Plc) (k : Nat) (hk : k < 4) (hs : isS f.W f.H q.1 q.2 = true) : ∃ (e : Edg) (sg : Int) (oq : Plc), (sideE q).getD k ((0, 0, 0), 0) = (e, sg) ∧ (other q).getD k (0, 0) = oq ∧
    (∀ w, (Instr.index 91 (sidesV q.1 q.2) (.int .i64 (k : Int))).run Try.prog w = .ok (.agg #[.int .i64 e.1, .int .i64 e.2.1, .int .i64 e.2.2, .int .i64 sg]) w) ∧
    isE f.W f.H e = true ∧ (sg = 1 ∨ sg = -1) ∧ (othA q)[k * 2]? = some (.int .i64 oq.1) ∧ (othA q)[k * 2 + 1]? = some (.int .i64 oq.2) := by
  unfold isS at hs
  rw [decide_eq_true_eq] at hs
  rcases (show k = 0 ∨ k = 1 ∨ k = 2 ∨ k = 3 by omega) with rfl | rfl | rfl | rfl
  all_goals
    refine ⟨_, _, _, rfl, rfl, fun _ => by kernel_rfl, ?_, ?_, rfl, rfl⟩
    · unfold isE; rw [decide_eq_true_eq]; simp; omega
    · first | exact .inl rfl | exact .inr rfl
theorem ix89 {b k : Nat} (h : k < 4) (w : World) : (Instr.indexAt 89 (.pointer (some ⟨b, 0, none⟩)) (.int .i64 (k : Int))).run Try.prog w = .ok (.pointer (some ⟨b, k * 2, none⟩)) w := by
  have hl : (Try.prog.arrayLen 89 : Int) = 4 := by kernel_rfl
  have hs : (sizeOf (Try.prog.elem 89)).run Try.prog w = .ok 2 w := by kernel_rfl
  rw [run_indexAt_array w 89 ⟨b, 0, none⟩ .i64 k (by kernel_rfl), hl, if_pos (by omega), hs]
  simp only [Result.andThen, Addr.add]
  split
  · rename_i h0; simp at h0; simp [h0]
  · simp
theorem rimN_bd (f : Fld) (l : List Plc) (q : Plc) (n : Nat) : -(4 * (n : Int)) ≤ rimN f l q n ∧ rimN f l q n ≤ 4 * (n : Int) := by
  induction n with
  | zero => simp [rimN]
  | succ n ih =>
    have h : -4 ≤ sideV f l q n ∧ sideV f l q n ≤ 4 := by
      unfold sideV
      split
      · omega
      · have h1 : ((sideE q).getD n ((0, 0, 0), 0)).2 = 1 ∨ ((sideE q).getD n ((0, 0, 0), 0)).2 = -1 ∨ ((sideE q).getD n ((0, 0, 0), 0)).2 = 0 := by
          rcases (show n = 0 ∨ n = 1 ∨ n = 2 ∨ n = 3 ∨ 4 ≤ n by omega) with rfl | rfl | rfl | rfl | h
          · exact .inl rfl
          · exact .inl rfl
          · exact .inr (.inl rfl)
          · exact .inr (.inl rfl)
          · right; right; rw [List.getD_eq_getElem?_getD, List.getElem?_eq_none (by simpa [sideE] using h)]; rfl
        have h2 := trn_bd f ((sideE q).getD n ((0, 0, 0), 0)).1
        rcases h1 with h1 | h1 | h1 <;> rw [h1] <;> omega
    simp only [rimN]; omega
def rimT (f : Fld) (l : List Plc) (k : Nat) : Int := lsum (fun p => rimN f l p 4) (l.take k)
theorem rimT_bd (f : Fld) (l : List Plc) (k : Nat) : -(16 * (k : Int)) ≤ rimT f l k ∧ rimT f l k ≤ 16 * (k : Int) := by
  have := lsum_bd (g := fun p : Plc => rimN f l p 4) (b := 16) (fun p => by have := rimN_bd f l p 4; omega) (l.take k)
  rw [List.length_take] at this
  unfold rimT
  omega

set_option maxRecDepth 4000 in
theorem Rim_any (v : FV) (A : Option Addr) (n c : Nat) (l : List Plc) (w : World) (hv : v.In w) (hl : Reads w w.heap.size 2 A n (plcs l)) (hn : n ≤ 1000000) (hc : n ≤ c) :
    Calls Try.prog 35 #[v.val, .slice A n c] w fun r w' => r = .returned (.tuple #[.int .i64 (rimsR v.f l).1, .int .i64 (rimsR v.f l).2]) ∧ Below w.heap.size w w' := by
  have hlen := hl.1
  rw [plcs_length] at hlen
  have l1 : n ≤ l.length := by omega
  have l2 : l.length ≤ n := by omega
  clear hlen
  have HL := Lib.hid hl
  have HVv := Lib.hid hv
  clear hv hl
  go_enter Try.func35, Try.ntmps35
  dsimp only [FV.val, eval_]
  go_wp2_with fail
  refine (squares_any v A n c l _ (HVv.out.below (belowA _ _)) (HL.out.on (belowA _ _)) (by omega) hc).mono ?_
  rintro r w1 ⟨rfl, hb1⟩
  have b0 := (Box.new _ _ _).below hb1
  have hw1 := Lib.hid (below1 _ hb1)
  clear hb1
  by_cases hz : regE v.f l = 0
  case neg =>
    have hz' : (regE v.f l != 0) = true := by simpa using hz
    have HR := Lib.hid (rimsR_bad hz)
    clear hz
    go_wp2_with fail
    go_ret2
    exact ⟨by rw [HR.out]; rfl, hw1.out⟩
  obtain ⟨hv0, hs0, hn0⟩ := regE_zero hz
  have ok := Lib.hid (okf_of_valid hv0)
  have HS := Lib.hid hs0
  have hz' : (regE v.f l != 0) = false := by simpa using hz
  have HR := Lib.hid (show rimsR v.f l = (rimT v.f l n, 0) by
    rw [rimsR_ok hz, ← rimP_eq v.f hn0]; unfold rimT rimP; rw [List.take_of_length_le l2])
  clear hz hv0 hs0 hn0
  go_wp2_with fail
  have HV1 := Lib.hid (HVv.out.below hw1.out)
  have HL1 := Lib.hid (HL.out.on hw1.out)
  go_loopw [7, 21] (fun s i wr => ∃ k : Nat, k ≤ n ∧ i = .int .i64 k ∧ s = .int .i64 (rimT v.f l k) ∧ Below w1.heap.size w1 wr) (fun _ i _ => n - (intOf i).toNat)
  case atStart => exact ⟨0, by omega, rfl, by simp [rimT, lsum], Below.refl _ _⟩
  case round =>
    obtain ⟨k, hk, rfl, rfl, hb0⟩ := hrel
    have hbel := Lib.hid hb0
    have b2 := b0.below hb0
    have HLr := Lib.hid (HL1.out.on hb0)
    have HVr := Lib.hid (HV1.out.below hb0)
    clear hb0
    by_cases hlt : k < n
    · obtain ⟨ad, q, e1, hbk, hx0, d0, d1⟩ := plat HLr.out (k := k) (by omega)
      have X := fun w => ix45 (c := c) e1 hlt w
      have HSU := Lib.hid (show rimT v.f l (k + 1) = rimT v.f l k + rimN v.f l q 4 from lsum_take_succ _ hx0)
      have hsq := Lib.hid (HS.out q (List.mem_of_getElem? hx0))
      have hib := rimT_bd v.f l k
      clear hx0 e1
      generalize rimT v.f l k = S at hib HSU ⊢
      have hS0 : -16000000 ≤ S := by omega
      have hS1 : S ≤ 16000000 := by omega
      clear hib
      have hsb := hsq.out
      unfold isS at hsb
      rw [decide_eq_true_eq] at hsb
      obtain ⟨x0, x1, y0, y1⟩ := hsb
      have okw := ok.out.w2
      have okh := ok.out.h2
      go_wp2_with fail
      refine (sides_any q.1 q.2 _ x0 (by omega) y0 (by omega)).mono ?_
      rintro r w3 ⟨rfl, hb3⟩
      have bq := ((Box.new _ _ _).alloc _).below hb3
      have bo := (show Box _ (wr.heap.size + 1) (othA q) from Box.new2 _ _ _ _ _).below hb3
      have hbel3 := Lib.hid (below_trans' hbel.out (below2 _ _ hb3))
      replace HLr := Lib.hid (HLr.out.on (below2 _ _ hb3))
      replace HVr := Lib.hid (HVr.out.below (below2 _ _ hb3))
      replace b2 := b2.below (below2 _ _ hb3)
      clear hb3 d0 d1 X
      go_wp2_with fail
      go_loopw [7, 55] (fun s i wr => ∃ j : Nat, j ≤ 4 ∧ i = .int .i64 j ∧ s = .int .i64 (S + rimN v.f l q j) ∧ Below w3.heap.size w3 wr) (fun _ i _ => 4 - (intOf i).toNat)
      case atStart => exact ⟨0, by omega, rfl, by simp [rimN], Below.refl _ _⟩
      case round =>
        obtain ⟨j, hj, rfl, rfl, hb0⟩ := hrel
        have hbi := Lib.hid hb0
        have b3 := b2.below hb0
        have bp := bo.below hb0
        have HLi := Lib.hid (HLr.out.on hb0)
        have HVi := Lib.hid (HVr.out.below hb0)
        clear hb0
        have hrb := rimN_bd v.f l q j
        have HSN := Lib.hid (show rimN v.f l q (j + 1) = rimN v.f l q j + sideV v.f l q j from rfl)
        by_cases hjlt : j < 4
        · obtain ⟨e, sg, oq, hse, hso, ixk, hie, hsg, ho0, ho1⟩ := side_k v.f q j hjlt hsq.out
          have HE := Lib.hid hie
          have HSV := Lib.hid (show sideV v.f l q j = if oq ∈ l then 0 else sg * v.f.trn e by unfold sideV; rw [hse, hso])
          have tb := trn_bd v.f e
          clear hie hse hso
          generalize rimN v.f l q j = R at hrb HSN ⊢
          have hR0 : -16 ≤ R := by omega
          have hR1 : R ≤ 16 := by omega
          obtain ⟨t0, t1⟩ := tb
          clear hrb
          have X := fun b w => ix89 (b := b) hjlt w
          have g0 := fun o => ((bp.alloc o).at (j * 2)).trans ho0
          have g1 := fun o => ((bp.alloc o).at (j * 2 + 1)).trans ho1
          clear ho0 ho1
          go_wp2_with fail
          refine (contains_any A n c l oq _ (HLi.out.on (belowA _ _)) (by omega)).mono ?_
          rintro r w4 ⟨rfl, hb4⟩
          have be := (Box.new _ _ _).below hb4
          have hbel4 := Lib.hid (below_trans' hbi.out (below1 _ hb4))
          replace HVi := Lib.hid (HVi.out.below (below1 _ hb4))
          replace b3 := b3.below (below1 _ hb4)
          clear hb4 g0 g1 X
          cases hc2 : decide (oq ∈ l)
          · have HC := Lib.hid (of_decide_eq_false hc2)
            clear hc2
            go_wp2_with fail
            have c2 := b3.rg
            have c3 := be.rg
            have q0 : ∀ w5, Below w4.heap.size w4 w5 → Calls Try.prog 60 #[v.val, eval_ e] w5 fun r w' => r = .returned (.int .i64 (v.f.trn e)) ∧ Below w5.heap.size w5 w' := fun w5 hb => turns_any v e w5 (HVi.out.below hb) ok.out HE.out
            have Q0 := Lib.hid q0
            clear q0
            rcases hsg with rfl | rfl
            all_goals
              refine wp_region_qb mixed (by kernel_rfl) ?_
              repeat (go_big_quiet_step (exact rg_call Q0.out _ _))
              refine wpQuiet_nil ?_
              intro w6 hb6
              have hbel6 := Lib.hid (below_trans' hbel4.out hb6)
              clear hb6 c2 c3
              go_wp2_with fail
              go_roundw
              case rel => exact ⟨j + 1, by omega, by go_num, congrArg _ (by rw [HSN.out, HSV.out, if_neg HC.out]; omega), hbel6.out⟩
              case measure => simp [intOf]; omega
          · have HC := Lib.hid (of_decide_eq_true hc2)
            clear hc2
            go_wp2_with fail
            go_roundw
            case rel => exact ⟨j + 1, by omega, by go_num, congrArg _ (by rw [HSN.out, HSV.out, if_pos HC.out]; omega), hbel4.out⟩
            case measure => simp [intOf]; omega
        · obtain rfl : j = 4 := by omega
          go_wp2_with fail
          go_roundw
          case rel => exact ⟨k + 1, by omega, by go_num, congrArg _ (by rw [HSU.out]), below_trans' hbel3.out hbi.out⟩
          case measure => simp [intOf]; omega
    · obtain rfl : k = n := by omega
      go_wp2_with fail
      go_ret2
      exact ⟨by rw [HR.out]; rfl, below_trans' hw1.out hbel.out⟩
end Go.Proofs.Ytahmdnboeenfkaa
