/- Merged texts: Yn Yo Ua -/
import Derived.Test.YtihhclhpjgeniaaGreatDoorSB8
import Derived.Test.YtihhclhpjgeniaaGreatDoorSB41
import Derived.RangeFuncNested
import Derived.RangeFuncBound
import Derived.RangeFuncCalls
import Derived.RangeFuncLeaves
import Derived.Shelf.Abstract
import Derived.Shelf.RegionOpen
import Derived.WalkKit
import Derived.OwnWalkIn
import Derived.TacticsInMore
import Derived.LoopNIn
import Derived.LoopIn
namespace Go.Proofs.YtihhclhpjgeniaaGreatDoor
open Go.RowKit Go.Sort Go.MuLone
theorem row_rs {v v' : RV} {p bl e sz n : Nat} {w w' : World} {u : Value} {xs : List Value} (ho : w.ownsRow bl e sz u n xs) (hr : Rs p v w v' w') (hF : ∀ k, v.F p k → k < bl) : w'.ownsRow bl e sz u n xs :=
 own_kp ho hr.kp fun b hb hf => by have := (ho.lt b hb).1; have := hF b hf; omega
set_option maxRecDepth 100000 in
set_option maxHeartbeats 1000000 in
theorem balanced_any (v : RV) (p : Nat) (w : World) (h : v.In 0 p w) (hg : v.rm.Good) : Calls Tryz.prog 34 #[.pointer (some ⟨p, 0, none⟩)] w (RetV v p w (.bool true)) := by
 have hnb : v.bs.length ≤ 12 := by have := hg.ok.nb; simpa [RV.rm] using this
 have hnw : v.ws.length ≤ 12 := by have := hg.ok.nw; simpa [RV.rm] using this
 have HG := Lib.hid hg
 have H := Lib.hid h
 have HF : Hid (∀ k, v.F p k → k < w.heap.size) := Lib.hid (fun k hk => h.lt (.inl hk))
 have HS := Lib.hid (fun j k => hairs_small hg.ok j k)
 have HL := Lib.hid (lost_small hg)
 have HB0 : Hid (v.bought = v.lost + hairsB v.rm.bs + hairsW v.rm.ws) := Lib.hid hg.ok.bal
 obtain ⟨N, hN⟩ : ∃ N, v.bs.length = N := ⟨_, rfl⟩
 obtain ⟨M, hM⟩ : ∃ M, v.ws.length = M := ⟨_, rfl⟩
 have HN := Lib.hid hN
 have HM := Lib.hid hM
 rw [hN] at hnb
 rw [hM] at hnw
 clear h hg hN hM
 go_enter Tryz.func34, Tryz.ntmps34
 go_wp2_with fail
 with_reducible refine (lost_any v p w H.out).mono ?_
 rintro _ w1 ⟨rfl, hi, hr⟩
 have H1 := Lib.hid hi
 have R1 := Lib.hid hr
 clear hi hr H
 go_wp2_with fail
 with_reducible refine (bundles_any v p w1 H1.out (by rw [HN.out]; exact hnb)).mono ?_
 rintro _ w2 ⟨B, d, rfl, ho, hi, hr⟩
 rw [HN.out] at ho ⊢
 have H2 := Lib.hid hi
 have R2 := Lib.hid (R1.out.trans hr)
 have O2 := Lib.hid ho
 have Z1 := Lib.hid R1.out.kp.size
 have Z2 := Lib.hid R2.out.kp.size
 clear hi hr ho H1 R1
 go_wp2_with fail
 with_reducible refine (wigs_any v p w2 H2.out (by rw [HM.out]; exact hnw)).mono ?_
 rintro _ w3 ⟨C, c, rfl, ho, hi, hr⟩
 rw [HM.out] at ho ⊢
 have H3 := Lib.hid hi
 have R3 := Lib.hid (R2.out.trans hr)
 have O3 := Lib.hid (row_rs O2.out hr fun k hk => Nat.lt_of_lt_of_le (HF.out k hk) Z1.out)
 have Q3 := Lib.hid ho
 clear hi hr ho H2 R2 O2
 go_wp2_with fail
 go_loopw [3, 6] (fun s i wr => ∃ j : Nat, j ≤ N ∧ i = .int .i64 j ∧ s = .int .i64 (v.lost + hairsB (v.rm.bs.take j)) ∧ v.In 0 p wr ∧ Rs p v w v wr ∧ wr.ownsRow w1.heap.size 9 1 (.slice B N d) N (v.bs.flatMap nm1) ∧ wr.ownsRow w2.heap.size 49 12 (.slice C M c) M (v.ws.flatMap wg1)) (fun _ i _ => N - (intOf i).toNat)
 case atStart => exact ⟨0, Nat.zero_le _, rfl, by simp [hairsB], H3.out, R3.out, O3.out, Q3.out⟩
 case round =>
  obtain ⟨j, hj, rfl, rfl, hi, hr, ho, hq⟩ := hrel
  have HI := Lib.hid hi
  have HR := Lib.hid hr
  have HO := Lib.hid ho
  have HQ := Lib.hid hq
  clear hi hr ho hq H3 R3 O3 Q3
  by_cases hlt : j < N
  ·obtain ⟨b, hb⟩ : ∃ b, v.bs[j]? = some b := ⟨v.bs[j]'(by rw [HN.out]; exact hlt), List.getElem?_eq_getElem _⟩
   have hb2 : v.rm.bs[j]? = some (b.name, b.v.h) := by show (v.bs.map fun b => (b.name, b.v.h))[j]? = _; rw [List.getElem?_map, hb]; rfl
   have HT : Hid (hairsB (v.rm.bs.take (j + 1)) = hairsB (v.rm.bs.take j) + b.v.h.cnt) := Lib.hid (hairsB_take hb2)
   have hbn : v.rm.bun b.name = some j := bun_own (b := (b.name, b.v.h)) HG.out.ok.db hb2
   have hhr : v.rm.hr j = b.v.h := by unfold Rm.hr; rw [hb2]; rfl
   have HBN := Lib.hid hbn
   have HHR := Lib.hid hhr
   obtain ⟨g, rfl⟩ := own_form HO.out (by omega)
   have HO' := HO.out
   have d0 : wr.cell? ⟨g, j, none⟩ = some (.string (mkB b.name)) := by have := own_cell nm_len (by omega) HO' hb (j := 0) (by omega); simpa [nm1] using this
   have v0 : IntKind.i64.wrap (v.lost + hairsB (v.rm.bs.take j) + b.v.h.cnt) = v.lost + hairsB (v.rm.bs.take (j + 1)) := by
    have a1 := HS.out j 0
    have a2 := HS.out (j + 1) 0
    have a3 := HL.out
    have a4 : v.rm.lost = v.lost := rfl
    have a5 := HT.out
    rw [IntWalk.i64_in _ (by omega)]; omega
   have v1' : IntKind.i64.wrap ((j : Int) + 1) = ((j + 1 : Nat) : Int) := by rw [IntWalk.i64_in _ (by omega)]; push_cast; rfl
   clear hb hb2 hbn hhr HO'
   go_wp2_with fail
   clear d0
   with_reducible refine (bundle_any v p b.name wr HI.out (by rw [HN.out]; exact hnb)).mono ?_
   rintro _ w4 ⟨u, e, rfl, hu, hm, hi, hr⟩
   simp only [HBN.out] at hm
   obtain ⟨rfl, hm⟩ := hm
   rw [HHR.out] at hm
   have HU := Lib.hid hu
   have HMU := Lib.hid hm
   have HI4 := Lib.hid hi
   have HR4 := Lib.hid (HR.out.trans hr)
   have HO4 := Lib.hid (row_rs HO.out hr fun k hk => Nat.lt_of_lt_of_le (HF.out k hk) Z1.out)
   have HQ4 := Lib.hid (row_rs HQ.out hr fun k hk => Nat.lt_of_lt_of_le (HF.out k hk) Z2.out)
   clear hu hm hi hr HI HR HO HQ
   go_wp2_with fail
   with_reducible refine (countB_any u _ (HU.out.below (belowA w4 (.cells u.arr 56)))).mono ?_
   rintro _ w5 ⟨rfl, hb⟩
   have HB5 := Lib.hid (below_trans' (belowA w4 (.cells u.arr 56)) hb)
   rw [HMU.out]
   clear hb
   go_wp2_with fail
   exact ⟨⟨j + 1, by omega, by go_num, rfl, HI4.out.below HB5.out, HR4.out.grow HB5.out, row_on HO4.out HB5.out, row_on HQ4.out HB5.out⟩, by simp [intOf]; omega⟩
  ·obtain rfl : j = N := by omega
   have e : v.rm.bs.take j = v.rm.bs := List.take_of_length_le (by show (v.bs.map _).length ≤ j; rw [List.length_map, HN.out]; exact Nat.le_refl _)
   rw [e]
   have A1 := Lib.hid (HS.out j 0)
   rw [e] at A1
   clear e
   go_wp2_with fail
   go_loopw [3, 11] (fun s i wr => ∃ k : Nat, k ≤ M ∧ i = .int .i64 k ∧ s = .int .i64 (v.lost + hairsB v.rm.bs + hairsW (v.rm.ws.take k)) ∧ v.In 0 p wr ∧ Rs p v w v wr ∧ wr.ownsRow w2.heap.size 49 12 (.slice C M c) M (v.ws.flatMap wg1)) (fun _ i _ => M - (intOf i).toNat)
   case atStart => exact ⟨0, Nat.zero_le _, rfl, by simp [hairsW], HI.out, HR.out, HQ.out⟩
   case round =>
    obtain ⟨k, hk, rfl, rfl, hi, hr, hq⟩ := hrel
    have KI := Lib.hid hi
    have KR := Lib.hid hr
    have KQ := Lib.hid hq
    clear hi hr hq HI HR HO HQ
    by_cases hlt : k < M
    ·obtain ⟨x, hx⟩ : ∃ x, v.ws[k]? = some x := ⟨v.ws[k]'(by rw [HM.out]; exact hlt), List.getElem?_eq_getElem _⟩
     have hx2 : v.rm.ws[k]? = some x.w := by show (v.ws.map (·.w))[k]? = _; rw [List.getElem?_map, hx]; rfl
     have ok := HG.out.ok.hw x.w (List.mem_of_getElem? hx2)
     have a1 := ok.hairs
     have a2 := ok.shed
     have HT : Hid (hairsW (v.rm.ws.take (k + 1)) = hairsW (v.rm.ws.take k) + (x.w.hairs - x.w.shed)) := Lib.hid (hairsW_take hx2)
     obtain ⟨g, rfl⟩ := own_form KQ.out (by omega)
     have KQ' := KQ.out
     have d2 : wr.cell? ⟨g, k * 12 + 2, none⟩ = some (.int .i64 x.w.hairs) := own_cell wg_len (by omega) KQ' hx (j := 2) (by omega)
     have d4 : wr.cell? ⟨g, k * 12 + 4, none⟩ = some (.int .i64 x.w.shed) := own_cell wg_len (by omega) KQ' hx (j := 4) (by omega)
     have g2 : ∀ d os, (grow (redrawn wr d) os).cell? ⟨g, k * 12 + 2, none⟩ = some (.int .i64 x.w.hairs) := rg_cell d2
     have g4 : ∀ d os, (grow (redrawn wr d) os).cell? ⟨g, k * 12 + 4, none⟩ = some (.int .i64 x.w.shed) := rg_cell d4
     have v0 : IntKind.i64.wrap (x.w.hairs - x.w.shed) = x.w.hairs - x.w.shed := IntWalk.i64_in _ (by omega)
     have v1 : IntKind.i64.wrap (v.lost + hairsB v.rm.bs + hairsW (v.rm.ws.take k) + (x.w.hairs - x.w.shed)) = v.lost + hairsB v.rm.bs + hairsW (v.rm.ws.take (k + 1)) := by
      have b1 := A1.out
      have b2 := HS.out 0 k
      have b3 := HL.out
      have b4 : v.rm.lost = v.lost := rfl
      have b5 := HT.out
      rw [IntWalk.i64_in _ (by omega)]; omega
     have v1' : IntKind.i64.wrap ((k : Int) + 1) = ((k + 1 : Nat) : Int) := by rw [IntWalk.i64_in _ (by omega)]; push_cast; rfl
     clear hx hx2 ok a1 a2 KQ' d2 d4
     go_wp2_with fail
     refine wp_region_qb mixed (by kernel_rfl) ?_
     repeat (go_big_quiet_step (fail))
     refine wpQuiet_nil ?_
     intro w6 hb6
     have KI6 := Lib.hid (KI.out.below hb6)
     have KR6 := Lib.hid (KR.out.grow hb6)
     have KQ6 := Lib.hid (row_on KQ.out hb6)
     clear hb6 g2 g4 v0 v1 KI KR KQ
     go_wp2_with fail
     exact ⟨⟨k + 1, by omega, by go_num, rfl, KI6.out, KR6.out, KQ6.out⟩, by simp [intOf]; omega⟩
    ·obtain rfl : k = M := by omega
     have e : v.rm.ws.take k = v.rm.ws := List.take_of_length_le (by show (v.ws.map _).length ≤ k; rw [List.length_map, HM.out]; exact Nat.le_refl _)
     rw [e, ← HB0.out]
     clear e
     go_wp2_with fail
     with_reducible refine (bought_any v p wr KI.out).mono ?_
     rintro _ w7 ⟨rfl, hi, hr⟩
     have KI7 := Lib.hid hi
     have KR7 := Lib.hid (KR.out.trans hr)
     clear hi hr
     go_wp2_with fail
     go_ret
     refine ⟨?_, KI7.out, KR7.out⟩
     simp
end Go.Proofs.YtihhclhpjgeniaaGreatDoor
namespace Go.Proofs.YtihhclhpjgeniaaGreatDoor
open Go.RowKit Go.Sort Go.MuLone
set_option maxRecDepth 100000 in
set_option maxHeartbeats 1000000 in
theorem lawBalances_any (A : Option Addr) (n c : Nat) (l : List (List UInt8)) (w : World) (hmw : ∃ m, Gl m w) (hl : Reads w w.heap.size 1 A n (strL l)) (hn : n ≤ 9223372036854775807) : Calls Tryz.prog 6 #[.slice A n c] w (RetT w) := by
 obtain ⟨m, hgl⟩ := hmw
 have hnl : n = l.length := by have := hl.1; rw [strL_len] at this; omega
 have HL := Lib.hid hl
 have HN := Lib.hid hnl
 have HGL := Lib.hid hgl
 clear hl hnl hgl
 go_enter Tryz.func6, Tryz.ntmps6
 go_wp2_with fail
 with_reducible refine (long_any A n c l w HL.out hn).mono ?_
 rintro _ w0 ⟨rfl, rfl⟩
 have HKN : Hid (∀ W : World, Below w0.heap.size w0 W → Calls Tryz.prog 20 #[] W fun r w' => r = .returned (.bool true) ∧ Below w0.heap.size w0 w') := Lib.hid (fun W hb =>
  (known_any m W (HGL.out.below hb)).mono fun r w' h => ⟨h.1, hb.trans (h.2.mono hb.size)⟩)
 cases hlb : longB l with
 | true =>
  go_wp2_with fail
  with_reducible refine (HKN.out w0 (Below.refl _ _)).mono ?_
  rintro _ w2 ⟨rfl, hb⟩
  go_wp2_with fail
  go_ret
  exact ⟨rfl, hb⟩
 | false =>
  go_wp2_with fail
  with_reducible refine (new_any w0 HGL.out.g).mono ?_
  rintro _ w2 ⟨v0, p, rfl, hrm, hi, hF, hb⟩
  have HI0 := Lib.hid hi
  have HF0 := Lib.hid hF
  have HB0 := Lib.hid hb
  have HRM0 := Lib.hid hrm
  clear hi hF hb hrm
  go_wp2_with fail
  go_loopw [4] (fun i wr => ∃ (j : Nat) (v : RV), j ≤ n ∧ i = .int .i64 j ∧ v.rm = runR (l.take j) rm0 ∧ v.In 0 p wr ∧ Below w0.heap.size w0 wr ∧ ∀ k, v.F p k ∨ v.C k → w0.heap.size ≤ k) (fun i _ => n - (intOf i).toNat)
  case atStart => exact ⟨0, v0, Nat.zero_le _, rfl, HRM0.out, HI0.out, HB0.out, HF0.out⟩
  case round =>
   obtain ⟨j, v, hj, rfl, hrm, hi, hb, hF⟩ := hrel
   have HRM := Lib.hid hrm
   have HI := Lib.hid hi
   have HB := Lib.hid hb
   have HF := Lib.hid hF
   clear hrm hi hb hF HI0 HF0 HB0 HRM0
   have HGLr := Lib.hid (HGL.out.below HB.out)
   have HG : Hid v.rm.Good := Lib.hid (by rw [HRM.out]; exact runG _)
   by_cases hlt : j < n
   ·have hlj : (j : Int) < (n : Int) := by omega
    by_cases h40 : j < 40
    ·have hl40 : (j : Int) < 40 := by omega
     have hjl : j < l.length := by have := HN.out; omega
     obtain ⟨t, ht⟩ : ∃ t, l[j]? = some t := ⟨l[j], List.getElem?_eq_getElem hjl⟩
     have HTK := Lib.hid (take_succ_of ht)
     obtain ⟨ad, e1, hbk, hc⟩ := HL.out.2 (by omega)
     have f1 : wr.cell? (ad.add j) = some (.string (mkB t)) := by
      rw [← hc j _ (by simp [strL, ht])]
      exact cell_low HB.out hbk
     subst e1
     clear hc ht
     go_wp2_with fail
     clear f1
     with_reducible refine (do_any v p t m wr HI.out HG.out HGLr.out).mono ?_
     rintro _ w3 ⟨rfl, v1, hrm, hi, hr⟩
     have HI2 := Lib.hid hi
     have HRM2 : Hid (v1.rm = runR (l.take (j + 1)) rm0) := Lib.hid (by rw [hrm, HRM.out, HTK.out, runR_snoc])
     have HG2 : Hid v1.rm.Good := Lib.hid (by rw [HRM2.out]; exact runG _)
     obtain ⟨hb2, hF2⟩ := hr.fresh HF.out HB.out.size
     have HB2 := Lib.hid (HB.out.trans hb2)
     have HF2 := Lib.hid hF2
     clear hi hrm hr hb2 hF2 HI HB HF HRM HG HGLr
     generalize (doR t v.rm).1 = e
     go_wp2_with fail
     with_reducible refine (balanced_any v1 p w3 HI2.out HG2.out).mono ?_
     rintro _ w4 ⟨rfl, hi, hr⟩
     have HI4 := Lib.hid hi
     obtain ⟨hb2, _⟩ := hr.fresh HF2.out HB2.out.size
     have HB4 := Lib.hid (HB2.out.trans hb2)
     have v1' : IntKind.i64.wrap ((j : Int) + 1) = ((j + 1 : Nat) : Int) := by rw [IntWalk.i64_in _ (by omega)]; push_cast; rfl
     clear hi hr hb2 HI2 HB2
     go_wp2_with fail
     exact ⟨⟨j + 1, v1, by omega, by go_num, HRM2.out, HI4.out, HB4.out, HF2.out⟩, by simp [intOf]; omega⟩
    ·have hl40 : ¬ (j : Int) < 40 := by omega
     go_wp2_with fail
     with_reducible refine (HKN.out wr HB.out).mono ?_
     rintro _ w4 ⟨rfl, hb⟩
     go_wp2_with fail
     go_ret
     exact ⟨rfl, hb⟩
   ·have hlj : ¬ (j : Int) < (n : Int) := by omega
    go_wp2_with fail
    with_reducible refine (HKN.out wr HB.out).mono ?_
    rintro _ w4 ⟨rfl, hb⟩
    go_wp2_with fail
    go_ret
    exact ⟨rfl, hb⟩
end Go.Proofs.YtihhclhpjgeniaaGreatDoor
namespace Go.Proofs.YtihhclhpjgeniaaGreatDoor
open Go.RowKit Go.Sort
variable {F : Fence} {n : Nat} {P : Program} {α : Type}
def SeqB (F : Fence) (n : Nat) (P : Program) (S K : Nat → Prop) (gf : Nat) (lb : Array Value) (encs : α → Array Value) (xs : List α) (w : World) : Prop :=
 ∀ (l : Nat) (J Jx : List α → World → Prop) (W : World), Below w.heap.size w W →
  (∀ s A B, J s A → Kp S A B → J s B) → (∀ s A B, Jx s A → Kp S A B → Jx s B) →
  (∀ pre x rest W1, J pre W1 → xs = pre ++ x :: rest → YieldAt F (n - 1) P l (encs x) W1 fun e W' =>
   (e = .returned (.bool true) ∧ J (pre ++ [x]) W' ∧ (∀ k, K k → W'.heap[k]? = W1.heap[k]?) ∧ W1.heap.size ≤ W'.heap.size) ∨ (e = .returned (.bool false) ∧ Jx (pre ++ [x]) W')) →
  J [] W →
  CallsIn F n P gf (#[.func (.yield l) #[] #[]] ++ lb) W fun e W' => (∃ v, e = .returned v) ∧ (J xs W' ∨ ∃ pre, Jx pre W')
def postB (K : Nat → Prop) (D : Nat) (I Ix : List α → World → Prop) (xs : List α) (W : World) : Exit → Act → World → Prop
 | .normal, _, W' => (W'.heap[D]? = W.heap[D]? ∧ W'.heap[D + 1]? = W.heap[D + 1]?) ∧ ((∀ k, K k → W'.heap[k]? = W.heap[k]?) ∧ W.heap.size ≤ W'.heap.size) ∧ I xs W'
 | .ret, _, W' => (W'.heap[D]? = W.heap[D]? ∧ W'.heap[D + 1]? = W.heap[D + 1]?) ∧ Ix xs W'
 | _, _, _ => False
theorem Kp.obj {S : Nat → Prop} {W : World} {l : Nat} (h : S l) (o : Obj) : Kp S W (W.putObj l o) :=
 ⟨rfl, rfl, rfl, by simp, fun b _ hb => World.putObj_heap_other fun e => hb (by rw [e]; exact h)⟩
theorem wpIn_rangeB {g : Operand} {ps : Array _root_.Go.Tmp} {assign body : Code} {Q : Exit → Act → World → Prop} {a : Act} {w : World}
  (hro : F.round = none) (h1 : 1 ≤ n) {gf : Nat} {lb : Array Value} (hg : a.eval g = .func (.func gf) #[] lb) (hFg : F.fn gf) (eg : ∀ args w, (callFunc gf args).run P w = .ok (.enter gf args) w)
  {encs : α → Array Value} {S K : Nat → Prop} {xs : List α} (hb : ∀ k, S k ∨ K k → k < w.heap.size) (hseq : SeqB F (n - 1) P S K gf lb encs xs w) (hps : ∀ x, (encs x).size = ps.size) (I Ix : List α → World → Prop)
  (hI : ∀ s A B, I s A → Kp (fun k => S k ∨ k = w.heap.size ∨ k = w.heap.size + 1) A B → I s B) (hIx : ∀ s A B, Ix s A → Kp (fun k => S k ∨ k = w.heap.size ∨ k = w.heap.size + 1) A B → Ix s B)
  (h0 : I [] w) (a₁ : α → Act)
  (hassign : ∀ (l : Nat) (x : α) (W : World) (K : Act → World → Prop), K (a₁ x) W →
   assign.wpIn (F.inRound l) (n - 1 - 1) P (Exit.then K (fun _ _ _ => False)) { tmps := (ps.zip (encs x)).foldl (fun t (p, v) => t.setIfInBounds p v) a.tmps, defers := [] } W)
  (hbody : ∀ (l : Nat) (pre : List α) (x : α) (rest : List α) (W : World), xs = pre ++ x :: rest → I pre W → w.heap.size + 1 < W.heap.size →
   body.wpIn (F.inRound l) (n - 1 - 1) P (postB K w.heap.size I Ix (pre ++ [x]) W) (a₁ x) W)
  (hdone : ∀ W, I xs W → W.heap[w.heap.size]? = some (.deferred (some [])) → Q .normal { a with defers := { target := .collected w.heap.size, args := #[] } :: a.defers } W)
  (hstop : ∀ pre W, Ix pre W → W.heap[w.heap.size]? = some (.deferred (some [])) → Code.ret.wpIn F n P Q { a with defers := { target := .collected w.heap.size, args := #[] } :: a.defers } W) :
  (Code.rangeFunc g ps assign body).wpIn F n P Q a w := by
 refine wpIn_rangeFunc fun fn hfn => ?_
 rw [hro]
 generalize hr : (fun st pe => ({ state := st, pending := pe, fn, tmps := a.tmps, params := ps, assign, body, defers := w.heap.size } : Loop)) = rec
 have hrs : ∀ st pe, rec st pe = { state := st, pending := pe, fn, tmps := a.tmps, params := ps, assign, body, defers := w.heap.size } := fun st pe => by rw [← hr]
 generalize hD : w.heap.size = D at *
 have hsz : (w.alloc (.deferred (some []))).heap.size = D + 1 := by rw [World.size_alloc, hD]
 have a0 : (w.alloc (.deferred (some []))).heap[D]? = some (.deferred (some [])) := by have := World.alloc_heap_new w (.deferred (some [])); rwa [hD] at this
 have hL1 : ((w.alloc (.deferred (some []))).alloc (.loop (rec .ready none))).heap[D + 1]? = some (.loop (rec .ready none)) := by
  have := World.alloc_heap_new (w.alloc (.deferred (some []))) (.loop (rec .ready none)); rwa [hsz] at this
 have hK1 : ((w.alloc (.deferred (some []))).alloc (.loop (rec .ready none))).heap[D]? = some (.deferred (some [])) := ((belowA (w.alloc (.deferred (some []))) (.loop (rec .ready none))).block D (by rw [hsz]; omega)).trans a0
 have hb1 : Below w.heap.size w ((w.alloc (.deferred (some []))).alloc (.loop (rec .ready none))) := below_trans' (belowA _ _) (belowA _ _)
 have hI1 : I [] ((w.alloc (.deferred (some []))).alloc (.loop (rec .ready none))) := hI _ _ _ h0 (Kp.of hb1)
 refine ⟨D + 1, [{ target := .collected D, args := #[] }], (w.alloc (.deferred (some []))).alloc (.loop (rec .ready none)), { target := .fn (.func gf) lb, args := #[.func (.yield (D + 1)) #[] #[]] }, (w.alloc (.deferred (some []))).alloc (.loop (rec .ready none)), gf,
  #[.func (.yield (D + 1)) #[] #[]] ++ lb, (w.alloc (.deferred (some []))).alloc (.loop (rec .ready none)), ?_, ?_, ?_, ?_, fun _ => h1, ?_⟩
 ·rw [hrs, ← hD]; exact run_enterLoop_outer _ _ _ _ _
 ·simp only [resolve, hg]
  simp [go_sem]
 ·intro f' hf'
  simp [Target.leads] at hf'
  subst hf'
  exact hFg
 ·simp [invoke, go_sem, eg]
 generalize (w.alloc (.deferred (some []))).alloc (.loop (rec .ready none)) = W1 at hL1 hK1 hb1 hI1 ⊢
 have hst : ∀ {l : Nat}, (l = D ∨ l = D + 1) → ∀ {A B : World} {o : Obj}, A.heap[l]? = some o → Kp S A B → B.heap[l]? = some o := fun hl A B o ho k =>
  (k.block _ (Array.getElem?_eq_some_iff.1 ho).1 fun e => by have := hb _ (.inl e); omega).trans ho
 refine (hseq (D + 1) (fun pre W => I pre W ∧ W.heap[D + 1]? = some (.loop (rec .ready none)) ∧ W.heap[D]? = some (.deferred (some [])))
  (fun pre W => Ix pre W ∧ W.heap[D + 1]? = some (.loop (rec .done (some .ret))) ∧ W.heap[D]? = some (.deferred (some []))) W1 hb1
  (fun s A B hs k => ⟨hI s A B hs.1 (k.mono fun x e => .inl e), hst (.inr rfl) hs.2.1 k, hst (.inl rfl) hs.2.2 k⟩)
  (fun s A B hs k => ⟨hIx s A B hs.1 (k.mono fun x e => .inl e), hst (.inr rfl) hs.2.1 k, hst (.inl rfl) hs.2.2 k⟩) ?_ ⟨hI1, hL1, hK1⟩).mono ?_
 ·rintro pre x rest W ⟨hi, hl, hk⟩ hxs
  have hlt : D + 1 < W.heap.size := (Array.getElem?_eq_some_iff.1 hl).1
  have hy := run_yield (P := P) (args := encs x) hl (by rw [hrs]; exact hps x)
  rw [hrs] at hy
  refine ⟨fn, _, assign, body, hy, roundIn_of_wpIn hfn (hassign _ x W _ ⟨_, run_beginRound hl (by rw [hrs]), ?_⟩)⟩
  obtain ⟨W2, hW2⟩ : ∃ W2, W.putObj (D + 1) (.loop { rec .ready none with state := .busy }) = W2 := ⟨_, rfl⟩
  have l2 : W2.heap[D + 1]? = some (.loop { rec .ready none with state := .busy }) := by rw [← hW2]; exact World.putObj_heap_same hlt
  have k2 : W2.heap[D]? = some (.deferred (some [])) := by rw [← hW2]; exact (World.putObj_heap_other (by omega)).trans hk
  have b2 : ∀ k, K k → W2.heap[k]? = W.heap[k]? := fun k hk => by have := hb k (.inr hk); rw [← hW2]; exact World.putObj_heap_other (by omega)
  have s2 : W2.heap.size = W.heap.size := by rw [← hW2]; simp
  have i2 : I pre W2 := by rw [← hW2]; exact hI _ _ _ hi (Kp.obj (.inr (.inr rfl)) _)
  have e3 : ∀ (st : LoopState) (jump : Option Code), ({ { rec .ready none with state := .busy } with state := st, pending := jump } : Loop) = rec st jump := fun st jump => by rw [hrs, hrs]
  rw [hW2]
  refine wpIn_mono (hbody _ pre x rest W2 hxs i2 (by omega)) ?_
  rintro e a3 W3 hp
  cases e with
  | normal =>
   obtain ⟨⟨p1, p2⟩, ⟨p3, p4⟩, hi3⟩ := hp
   have l3 := p2.trans l2
   have hr := run_endRound (P := P) none l3
   rw [e3] at hr
   refine ⟨_, _, hr, .inl ⟨rfl, ⟨hI _ _ _ hi3 (Kp.obj (.inr (.inr rfl)) _), World.putObj_heap_same (Array.getElem?_eq_some_iff.1 l3).1, (World.putObj_heap_other (by omega)).trans (p1.trans k2)⟩, ?_, ?_⟩⟩
   ·exact fun k hk => (World.putObj_heap_other (by have := hb k (.inr hk); omega)).trans ((p3 k hk).trans (b2 k hk))
   ·rw [World.putObj_size]; omega
  | ret =>
   obtain ⟨⟨p1, p2⟩, hi3⟩ := hp
   have l3 := p2.trans l2
   have hr := run_endRound (P := P) (some .ret) l3
   rw [e3] at hr
   exact ⟨_, _, hr, .inr ⟨rfl, hIx _ _ _ hi3 (Kp.obj (.inr (.inr rfl)) _), World.putObj_heap_same (Array.getElem?_eq_some_iff.1 l3).1, (World.putObj_heap_other (by omega)).trans (p1.trans k2)⟩⟩
  | exit id => exact hp.elim
  | goto t => exact hp.elim
  | panic ch => exact hp.elim
  | outgrown => exact hp.elim
 ·rintro e W2 ⟨⟨v, rfl⟩, ⟨hi, hl, hk⟩ | ⟨pre, hi, hl, hk⟩⟩
  ·refine ⟨none, _, ?_, hdone _ (hI _ _ _ hi (Kp.obj (.inr (.inr rfl)) (.loop (rec .exhausted none)))) ((World.putObj_heap_other (by omega)).trans hk)⟩
   have := run_endLoop (P := P) hl (by rw [hrs]; simp)
   rw [hrs] at this ⊢
   exact this
  ·refine ⟨some .ret, _, ?_, hstop pre _ (hIx _ _ _ hi (Kp.obj (.inr (.inr rfl)) (.loop (rec .exhausted (some .ret))))) ((World.putObj_heap_other (by omega)).trans hk)⟩
   have := run_endLoop (P := P) hl (by rw [hrs]; simp)
   rw [hrs] at this ⊢
   exact this
end Go.Proofs.YtihhclhpjgeniaaGreatDoor
