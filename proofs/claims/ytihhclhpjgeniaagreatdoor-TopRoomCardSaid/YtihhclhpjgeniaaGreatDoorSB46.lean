/- Merged texts: Vb Xd Xf -/
import Derived.Test.YtihhclhpjgeniaaGreatDoorSB39
import Derived.Test.YtihhclhpjgeniaaGreatDoorSB45
import Derived.Test.YtihhclhpjgeniaaGreatDoorRows
import Derived.Test.YtihhclhpjgeniaaGreatDoorTie
import Derived.Test.YtihhclhpjgeniaaGreatDoorCards
import Derived.ProofKit
import Derived.Deep.Slices
import Derived.Deep.Strs
import Derived.Lib.SmallJoins
import Derived.Laws.IdiomArrays
import Derived.ChangeMaps5
import Derived.Lay
import Derived.LaidOnce
import Derived.LaidLaws
import Derived.HandedShaped
import Derived.SevenTiedAt
import Derived.Lib.LaidTab
import Derived.JoinedOf
namespace Go.Proofs.YtihhclhpjgeniaaGreatDoor
open Go.RowKit Go.Sort Go.MuLone
theorem doR_same {t : List UInt8} {r : Rm} (h : (doR t r).1 ≠ 0) : (doR t r).2 = r := by
 unfold doR at h ⊢
 split
 ·rfl
 ·rename_i o ho
  simp only [ho] at h
  split
  ·rfl
  ·rename_i h1
   rw [if_neg h1] at h
   split
   ·rfl
   ·rename_i h2
    rw [if_neg h2] at h
    exact absurd rfl h
set_option maxRecDepth 100000 in
set_option maxHeartbeats 2000000 in
theorem lawRoom_any (A : Option Addr) (n c : Nat) (l : List (List UInt8)) (w : World) (hmw : ∃ m, Gl m w) (hl : Reads w w.heap.size 1 A n (strL l)) (hn : n ≤ 9223372036854775807) : Calls Tryz.prog 17 #[.slice A n c] w (RetT w) := by
 obtain ⟨m, hgl⟩ := hmw
 have hnl : n = l.length := by have := hl.1; rw [strL_len] at this; omega
 have HL := Lib.hid hl
 have HN := Lib.hid hnl
 have HGL := Lib.hid hgl
 clear hl hnl hgl
 go_enter Tryz.func17, Tryz.ntmps17
 go_wp2_with fail
 with_reducible refine (begun_any m w HGL.out).mono ?_
 rintro _ w0 ⟨⟨pp, rfl⟩, hb⟩
 have HB00 := Lib.hid hb
 have HGL0 := Lib.hid (HGL.out.below hb)
 clear hb
 go_wp2_with fail
 with_reducible refine (new_any w0 HGL0.out.g).mono ?_
 rintro _ w2 ⟨v0, p, rfl, hrm, hi, hF, hb⟩
 have HI0 := Lib.hid hi
 have HF0 := Lib.hid hF
 have HB0 := Lib.hid hb
 have HRM0 := Lib.hid hrm
 clear hi hF hb hrm
 go_wp2_with fail
 go_loopw [6] (fun i wr => ∃ (j : Nat) (v : RV), j ≤ n ∧ i = .int .i64 j ∧ v.rm = runR (l.take j) rm0 ∧ v.In 0 p wr ∧ Below w0.heap.size w0 wr ∧ ∀ k, v.F p k ∨ v.C k → w0.heap.size ≤ k) (fun i _ => n - (intOf i).toNat)
 case atStart => exact ⟨0, v0, Nat.zero_le _, rfl, HRM0.out, HI0.out, HB0.out, HF0.out⟩
 case round =>
  obtain ⟨j, v, hj, rfl, hrm, hi, hb, hF⟩ := hrel
  have HRM := Lib.hid hrm
  have HI := Lib.hid hi
  have HB := Lib.hid hb
  have HF := Lib.hid hF
  have HFW : Hid (∀ k, v.F p k → k < wr.heap.size) := Lib.hid fun k hk => hi.lt (.inl hk)
  clear hrm hi hb hF HI0 HF0 HB0 HRM0
  have HGLr := Lib.hid (HGL0.out.below HB.out)
  have HG : Hid v.rm.Good := Lib.hid (by rw [HRM.out]; exact runG _)
  by_cases hlt : j < n ∧ j < 60
  ·obtain ⟨hlt, h60⟩ := hlt
   have hlj : (j : Int) < (n : Int) := by omega
   have hl60 : (j : Int) < 60 := by omega
   have hd3 : v.day.length ≤ 300 := HG.out.day
   have hd4 : ∀ t ∈ v.day, t.length ≤ 60 := fun t ht => (HG.out.lines t ht).2
   have hnb : v.bs.length ≤ 12 := by have := HG.out.ok.nb; simpa [RV.rm] using this
   have hnw : v.ws.length ≤ 12 := by have := HG.out.ok.nw; simpa [RV.rm] using this
   have hjl : j < l.length := by have := HN.out; omega
   obtain ⟨t, ht⟩ : ∃ t, l[j]? = some t := ⟨l[j], List.getElem?_eq_getElem hjl⟩
   have HTK := Lib.hid (take_succ_of ht)
   obtain ⟨ad, e1, hbk, hc⟩ := HL.out.2 (by omega)
   have F1 : Hid (∀ W, Below w0.heap.size w0 W → W.cell? (ad.add j) = some (.string (mkB t))) := Lib.hid fun W hW => by
    rw [← hc j _ (by simp [strL, ht])]
    exact cell_low (HB00.out.trans (hW.mono HB00.out.size)) hbk
   subst e1
   clear hc ht hbk
   go_wp2_with fail
   with_reducible refine (day_any v p wr HI.out hd3 hd4).mono ?_
   rintro _ w3 ⟨rfl, hi, hr⟩
   have HI3 := Lib.hid hi
   have HR3 := Lib.hid hr
   clear hi hr HI
   go_wp2_with fail
   with_reducible refine (bought_any v p w3 HI3.out).mono ?_
   rintro _ w4 ⟨rfl, hi, hr⟩
   have HI4 := Lib.hid hi
   have HR4 := Lib.hid (HR3.out.trans hr)
   clear hi hr HI3 HR3
   go_wp2_with fail
   with_reducible refine (lost_any v p w4 HI4.out).mono ?_
   rintro _ w5 ⟨rfl, hi, hr⟩
   have HI5 := Lib.hid hi
   have HR5 := Lib.hid (HR4.out.trans hr)
   clear hi hr HI4 HR4
   go_wp2_with fail
   with_reducible refine (cash_any v p w5 HI5.out).mono ?_
   rintro _ w6 ⟨rfl, hi, hr⟩
   have HI6 := Lib.hid hi
   have HR6 := Lib.hid (HR5.out.trans hr)
   clear hi hr HI5 HR5
   go_wp2_with fail
   with_reducible refine (wigs_any v p w6 HI6.out hnw).mono ?_
   rintro _ w7 ⟨C, cc, rfl, ho, hi, hr⟩
   have HI7 := Lib.hid hi
   have HR7 := Lib.hid (HR6.out.trans hr)
   have HO7 := Lib.hid ho
   have Z6 := Lib.hid HR6.out.kp.size
   clear hi hr ho HI6 HR6
   go_wp2_with fail
   with_reducible refine (bundles_any v p w7 HI7.out hnb).mono ?_
   rintro _ w8 ⟨D, dd, rfl, _, hi, hr⟩
   have HI8 := Lib.hid hi
   have HR8 := Lib.hid (HR7.out.trans hr)
   have HFL : Hid (∀ k, v.F p k → k < w6.heap.size) := Lib.hid fun k hk => Nat.lt_of_lt_of_le (HFW.out k hk) Z6.out
   have HO8 := Lib.hid (row_rs HO7.out hr HFL.out)
   obtain ⟨hb8, _⟩ := HR8.out.fresh HF.out HB.out.size
   have HB8 := Lib.hid (HB.out.trans hb8)
   have HGL8 := Lib.hid (HGL0.out.below HB8.out)
   have f8 := F1.out w8 HB8.out
   clear hi hr hb8 HI7 HR7 HO7
   go_wp2_with fail
   clear f8
   with_reducible refine (do_any v p t m w8 HI8.out HG.out HGL8.out).mono ?_
   rintro _ w9 ⟨rfl, v1, hrm, hi, hr⟩
   have HI9 := Lib.hid hi
   have HRM2 : Hid (v1.rm = runR (l.take (j + 1)) rm0) := Lib.hid (by rw [hrm, HRM.out, HTK.out, runR_snoc])
   have HG2 : Hid v1.rm.Good := Lib.hid (by rw [HRM2.out]; exact runG _)
   obtain ⟨hb2, hF2⟩ := hr.fresh HF.out HB8.out.size
   have HB9 := Lib.hid (HB8.out.trans hb2)
   have HF2 := Lib.hid hF2
   have HO9 := Lib.hid (row_rs HO8.out hr HFL.out)
   have HF9 : Hid (∀ k, v1.F p k → k < w6.heap.size ∨ w8.heap.size ≤ k) := Lib.hid fun k hk => (hr.f k hk).imp (HFL.out k) id
   have HK9 : Hid (∀ b, (Value.slice C v.ws.length cc).ownBlock = some b → w6.heap.size ≤ b ∧ b < w8.heap.size) := Lib.hid fun b hb => ⟨(HO8.out.lt b hb).1, (HO8.out.lt b hb).2⟩
   have HDO := Lib.hid hrm
   clear hi hrm hr hb2 hF2 HI8 HB8 HR8 HO8 HGL8 HB
   go_wp2_with fail
   with_reducible refine (hairs_any v1 p w9 HI9.out HG2.out).mono ?_
   rintro _ w10 ⟨rfl, hi, hr⟩
   have HI10 := Lib.hid hi
   have HO10 := Lib.hid (own_kp HO9.out hr.kp fun b hb hf => by have := HK9.out b hb; have := HF9.out b hf; omega)
   have HB10 := Lib.hid (HB9.out.trans (hr.fresh HF2.out HB9.out.size).1)
   clear hi hr HI9 HO9 HB9
   go_wp2_with fail
   with_reducible refine (bought_any v1 p w10 HI10.out).mono ?_
   rintro _ w11 ⟨rfl, hi, hr⟩
   have HI11 := Lib.hid hi
   have HO11 := Lib.hid (own_kp HO10.out hr.kp fun b hb hf => by have := HK9.out b hb; have := HF9.out b hf; omega)
   have HB11 := Lib.hid (HB10.out.trans (hr.fresh HF2.out HB10.out.size).1)
   clear hi hr HI10 HO10 HB10
   have hd31 : v1.day.length ≤ 300 := HG2.out.day
   have hd41 : ∀ t ∈ v1.day, t.length ≤ 60 := fun t ht => (HG2.out.lines t ht).2
   have hnb1 : v1.bs.length ≤ 12 := by have := HG2.out.ok.nb; simpa [RV.rm] using this
   have hnw1 : v1.ws.length ≤ 12 := by have := HG2.out.ok.nw; simpa [RV.rm] using this
   have v1' : IntKind.i64.wrap ((j : Int) + 1) = ((j + 1 : Nat) : Int) := by rw [IntWalk.i64_in _ (by omega)]; push_cast; rfl
   by_cases h0 : (doR t v.rm).1 = 0
   ·obtain ⟨hg', hday⟩ := good_step HG.out h0
    have hdy : v1.day = v.day ++ [t] := by have := congrArg Rm.day HDO.out; rw [hday] at this; exact this
    rw [h0]
    have e1 : dayT v1.day = dayT v.day ++ t ++ [10] := by rw [hdy, dayT_snoc, List.append_assoc]
    have hdl : (dayT v1.day).length ≤ 61 * v1.day.length := dayT_len hd41
    have hln : (dayT v1.day).length = (dayT v.day).length + t.length + 1 := by rw [e1]; simp; omega
    have hno1 : ¬ 9223372036854775807 < (dayT v.day).length + t.length := by omega
    have hno2 : ¬ 9223372036854775807 < (dayT v.day).length + t.length + 1 := by omega
    have hap1 : (mkB (dayT v.day) ++ mkB t) = mkB (dayT v.day ++ t) := mk_append _ _
    have hap2 : (mkB (dayT v.day ++ t) ++ ByteArray.mk #[10]) = mkB (dayT v.day ++ t ++ [10]) := mk_append _ [10]
    have E1 := Lib.hid e1
    clear h0 hg' hday hdy hdl hln e1
    go_wp2_with fail
    refine wp_region_hj [0, 2, 3, 4, 5, 6, 7, 8] [] [1, 9] (fun W => Below w0.heap.size w0 W) mixed (by kernel_rfl) (fun W W' h hb => h.trans (hb.mono h.size)) (HB11.out.trans ((below_drew _).mono HB11.out.size)) ?_
    iterate 8
     refine canonG_read (v := ?_) rfl (by rfl) ?_ ?_
     rotate_left
     ·intro W hS
      have c1 := F1.out W hS
      go_simp <;> with_reducible rfl
     simp only [List.getElem_toArray, List.getElem_cons_zero, List.getElem_cons_succ, Act.put, List.setIfInBounds_toArray, List.set_cons_succ, List.set_cons_zero]
    refine canonG_nil ?_
    refine tailJ_one (t := 1) (ts' := [9]) (ps' := []) (ns := []) (by kernel_rfl) rfl (by kernel_rfl) (by kernel_rfl) rfl ?_
    intro W6 hb
    have hb6 : Below w11.heap.size w11 W6 := undrew hb
    have HI12 := Lib.hid (HI11.out.below hb6)
    have HB12 := Lib.hid (HB11.out.trans (hb6.mono HB11.out.size))
    clear hb hb6 HI11 HB11 HO11
    go_wp2_with fail
    with_reducible refine (day_any v1 p W6 HI12.out hd31 hd41).mono ?_
    rintro _ w12 ⟨rfl, hi, hr⟩
    rw [E1.out]
    have HI13 := Lib.hid hi
    have HB13 := Lib.hid (HB12.out.trans (hr.fresh HF2.out HB12.out.size).1)
    clear hi hr HI12 HB12 hno1 hno2 hap1 hap2 E1
    go_wp2_with fail
    refine ⟨HB13.out, canonG_nil ?_⟩
    refine tailJ_last (t := 9) (by kernel_rfl) rfl ?_
    intro W8 hb
    have HI14 := Lib.hid (HI13.out.below hb)
    have HB14 := Lib.hid (HB13.out.trans (hb.mono HB13.out.size))
    clear hb HI13 HB13
    go_wp2_with fail
    refine NoPanic.normal ?_
    go_wp2_with fail
    exact ⟨⟨j + 1, v1, by omega, by go_num, HRM2.out, HI14.out, HB14.out, HF2.out⟩, by simp [intOf]; omega⟩
   ·have hsame : v1.rm = v.rm := by rw [HDO.out]; exact doR_same h0
    have h0' : ((doR t v.rm).1 == 0) = false := by simpa using h0
    have EDY : Hid (v1.day = v.day) := Lib.hid (congrArg Rm.day hsame)
    have EBT : Hid (v1.bought = v.bought) := Lib.hid (congrArg Rm.bought hsame)
    have ELS : Hid (v1.lost = v.lost) := Lib.hid (congrArg Rm.lost hsame)
    have ECS : Hid (v1.cash = v.cash) := Lib.hid (congrArg Rm.cash hsame)
    have EWS : Hid (v1.ws.map (·.w) = v.ws.map (·.w)) := Lib.hid (congrArg Rm.ws hsame)
    have EW : Hid (v1.ws.length = v.ws.length) := Lib.hid (by have := congrArg List.length EWS.out; simpa using this)
    have EB : Hid (v1.bs.length = v.bs.length) := Lib.hid (by have := congrArg (fun r : Rm => r.bs.length) hsame; simpa [RV.rm] using this)
    clear h0 hsame
    go_wp2_with fail
    with_reducible refine (day_any v1 p w11 HI11.out hd31 hd41).mono ?_
    rintro _ w12 ⟨rfl, hi, hr⟩
    rw [show v1.day = v.day from EDY.out]
    have HI12 := Lib.hid hi
    have HO12 := Lib.hid (own_kp HO11.out hr.kp fun b hb hf => by have := HK9.out b hb; have := HF9.out b hf; omega)
    have HB12 := Lib.hid (HB11.out.trans (hr.fresh HF2.out HB11.out.size).1)
    clear hi hr HI11 HO11 HB11
    go_wp2_with fail
    with_reducible refine (bought_any v1 p w12 HI12.out).mono ?_
    rintro _ w13 ⟨rfl, hi, hr⟩
    rw [show v1.bought = v.bought from EBT.out]
    have HI13 := Lib.hid hi
    have HO13 := Lib.hid (own_kp HO12.out hr.kp fun b hb hf => by have := HK9.out b hb; have := HF9.out b hf; omega)
    have HB13 := Lib.hid (HB12.out.trans (hr.fresh HF2.out HB12.out.size).1)
    clear hi hr HI12 HO12 HB12
    go_wp2_with fail
    with_reducible refine (lost_any v1 p w13 HI13.out).mono ?_
    rintro _ w14 ⟨rfl, hi, hr⟩
    rw [show v1.lost = v.lost from ELS.out]
    have HI14 := Lib.hid hi
    have HO14 := Lib.hid (own_kp HO13.out hr.kp fun b hb hf => by have := HK9.out b hb; have := HF9.out b hf; omega)
    have HB14 := Lib.hid (HB13.out.trans (hr.fresh HF2.out HB13.out.size).1)
    clear hi hr HI13 HO13 HB13
    go_wp2_with fail
    with_reducible refine (cash_any v1 p w14 HI14.out).mono ?_
    rintro _ w15 ⟨rfl, hi, hr⟩
    rw [show v1.cash = v.cash from ECS.out]
    have HI15 := Lib.hid hi
    have HO15 := Lib.hid (own_kp HO14.out hr.kp fun b hb hf => by have := HK9.out b hb; have := HF9.out b hf; omega)
    have HB15 := Lib.hid (HB14.out.trans (hr.fresh HF2.out HB14.out.size).1)
    clear hi hr HI14 HO14 HB14
    go_wp2_with fail
    with_reducible refine (wigs_any v1 p w15 HI15.out hnw1).mono ?_
    rintro _ w16 ⟨G, Gc, rfl, hoG, hi, hr⟩
    rw [show v1.ws.length = v.ws.length from EW.out]
    have HI16 := Lib.hid hi
    have HO16 := Lib.hid (own_kp HO15.out hr.kp fun b hb hf => by have := HK9.out b hb; have := HF9.out b hf; omega)
    have HB16 := Lib.hid (HB15.out.trans (hr.fresh HF2.out HB15.out.size).1)
    clear hi hr HI15 HO15 HB15 hoG
    go_wp2_with fail
    with_reducible refine (bundles_any v1 p w16 HI16.out hnb1).mono ?_
    rintro _ w17 ⟨H, Hc, rfl, hoH, hi, hr⟩
    rw [show v1.bs.length = v.bs.length from EB.out]
    have HI17 := Lib.hid hi
    have HO17 := Lib.hid (own_kp HO16.out hr.kp fun b hb hf => by have := HK9.out b hb; have := HF9.out b hf; omega)
    have HB17 := Lib.hid (HB16.out.trans (hr.fresh HF2.out HB16.out.size).1)
    clear hi hr HI16 HO16 HB16 hoH
    go_wp2_with fail
    with_reducible refine (wigs_any v1 p w17 HI17.out hnw1).mono ?_
    rintro _ w18 ⟨E, Ec, rfl, hoE, hi, hr⟩
    rw [show v1.ws.length = v.ws.length from EW.out] at hoE ⊢
    have HI18 := Lib.hid hi
    have HO18 := Lib.hid (own_kp HO17.out hr.kp fun b hb hf => by have := HK9.out b hb; have := HF9.out b hf; omega)
    have HB18 := Lib.hid (HB17.out.trans (hr.fresh HF2.out HB17.out.size).1)
    clear hi hr HI17 HO17 HB17
    go_wp2_with fail
    have e6 : v1.ws.flatMap wg1 = v.ws.flatMap wg1 := by
     have h1 : ∀ l : List NW, l.flatMap wg1 = (l.map (·.w)).flatMap wgL := fun l => by rw [List.flatMap_map]; rfl
     rw [h1, h1, EWS.out]
    rw [e6] at hoE
    have HE := Lib.hid hoE
    obtain ⟨M, hM⟩ : ∃ M, v.ws.length = M := ⟨_, rfl⟩
    have HM := Lib.hid hM
    rw [hM] at HE HO18 ⊢
    clear e6 hoE hM
    go_loopw [17] (fun i wr => ∃ k : Nat, k ≤ M ∧ i = .int .i64 k ∧ v1.In 0 p wr ∧ Below w0.heap.size w0 wr ∧ wr.ownsRow w6.heap.size 49 12 (.slice C M cc) M (v.ws.flatMap wg1) ∧ wr.ownsRow w17.heap.size 49 12 (.slice E M Ec) M (v.ws.flatMap wg1)) (fun i _ => M - (intOf i).toNat)
    case atStart => exact ⟨0, Nat.zero_le _, rfl, HI18.out, HB18.out, HO18.out, HE.out⟩
    case round =>
     obtain ⟨k, hk, rfl, hi, hb, ho, he⟩ := hrel
     have KI := Lib.hid hi
     have KB := Lib.hid hb
     have KO := Lib.hid ho
     have KE := Lib.hid he
     clear hi hb ho he HI18 HB18 HO18 HE
     by_cases hlt : k < M
     ·obtain ⟨x, hx⟩ : ∃ x, v.ws[k]? = some x := ⟨v.ws[k]'(by rw [HM.out]; exact hlt), List.getElem?_eq_getElem _⟩
      obtain ⟨g, rfl⟩ := own_form KO.out (by omega)
      obtain ⟨f, rfl⟩ := own_form KE.out (by omega)
      have r1 := KO.out
      have r2 := KE.out
      have d0 : wr.cell? ⟨g, k * 12, none⟩ = some (.string (mkB x.w.name)) := own_cell wg_len (by omega) r1 hx (j := 0) (by omega)
      have d1 : wr.cell? ⟨g, k * 12 + 1, none⟩ = some (.string (mkB x.w.bun)) := own_cell wg_len (by omega) r1 hx (j := 1) (by omega)
      have d2 : wr.cell? ⟨g, k * 12 + 2, none⟩ = some (.int .i64 x.w.hairs) := own_cell wg_len (by omega) r1 hx (j := 2) (by omega)
      have d3 : wr.cell? ⟨g, k * 12 + 3, none⟩ = some (.int .i64 x.w.done) := own_cell wg_len (by omega) r1 hx (j := 3) (by omega)
      have d4 : wr.cell? ⟨g, k * 12 + 4, none⟩ = some (.int .i64 x.w.shed) := own_cell wg_len (by omega) r1 hx (j := 4) (by omega)
      have d5 : wr.cell? ⟨g, k * 12 + 5, none⟩ = some (.int .i64 x.w.len) := own_cell wg_len (by omega) r1 hx (j := 5) (by omega)
      have d6 : wr.cell? ⟨g, k * 12 + 6, none⟩ = some (.int .i64 x.w.lvl) := own_cell wg_len (by omega) r1 hx (j := 6) (by omega)
      have d7 : wr.cell? ⟨g, k * 12 + 7, none⟩ = some (.int .i64 x.w.tone) := own_cell wg_len (by omega) r1 hx (j := 7) (by omega)
      have d8 : wr.cell? ⟨g, k * 12 + 8, none⟩ = some (.int .i64 x.w.bl) := own_cell wg_len (by omega) r1 hx (j := 8) (by omega)
      have d9 : wr.cell? ⟨g, k * 12 + 9, none⟩ = some (.string (mkB x.w.plait)) := own_cell wg_len (by omega) r1 hx (j := 9) (by omega)
      have d10 : wr.cell? ⟨g, k * 12 + 10, none⟩ = some (.int .i64 x.w.state) := own_cell wg_len (by omega) r1 hx (j := 10) (by omega)
      have d11 : wr.cell? ⟨g, k * 12 + 11, none⟩ = some (.int .i64 x.w.price) := own_cell wg_len (by omega) r1 hx (j := 11) (by omega)
      have q0 : wr.cell? ⟨f, k * 12, none⟩ = some (.string (mkB x.w.name)) := own_cell wg_len (by omega) r2 hx (j := 0) (by omega)
      have q1 : wr.cell? ⟨f, k * 12 + 1, none⟩ = some (.string (mkB x.w.bun)) := own_cell wg_len (by omega) r2 hx (j := 1) (by omega)
      have q2 : wr.cell? ⟨f, k * 12 + 2, none⟩ = some (.int .i64 x.w.hairs) := own_cell wg_len (by omega) r2 hx (j := 2) (by omega)
      have q3 : wr.cell? ⟨f, k * 12 + 3, none⟩ = some (.int .i64 x.w.done) := own_cell wg_len (by omega) r2 hx (j := 3) (by omega)
      have q4 : wr.cell? ⟨f, k * 12 + 4, none⟩ = some (.int .i64 x.w.shed) := own_cell wg_len (by omega) r2 hx (j := 4) (by omega)
      have q5 : wr.cell? ⟨f, k * 12 + 5, none⟩ = some (.int .i64 x.w.len) := own_cell wg_len (by omega) r2 hx (j := 5) (by omega)
      have q6 : wr.cell? ⟨f, k * 12 + 6, none⟩ = some (.int .i64 x.w.lvl) := own_cell wg_len (by omega) r2 hx (j := 6) (by omega)
      have q7 : wr.cell? ⟨f, k * 12 + 7, none⟩ = some (.int .i64 x.w.tone) := own_cell wg_len (by omega) r2 hx (j := 7) (by omega)
      have q8 : wr.cell? ⟨f, k * 12 + 8, none⟩ = some (.int .i64 x.w.bl) := own_cell wg_len (by omega) r2 hx (j := 8) (by omega)
      have q9 : wr.cell? ⟨f, k * 12 + 9, none⟩ = some (.string (mkB x.w.plait)) := own_cell wg_len (by omega) r2 hx (j := 9) (by omega)
      have q10 : wr.cell? ⟨f, k * 12 + 10, none⟩ = some (.int .i64 x.w.state) := own_cell wg_len (by omega) r2 hx (j := 10) (by omega)
      have q11 : wr.cell? ⟨f, k * 12 + 11, none⟩ = some (.int .i64 x.w.price) := own_cell wg_len (by omega) r2 hx (j := 11) (by omega)
      have q20 := eqg49 .neq
      have q21 := neq49 x.w
      dsimp only [wgL] at q21
      have hM12 : M ≤ 12 := by have := HM.out; omega
      have v2 : IntKind.i64.wrap ((k : Int) + 1) = ((k + 1 : Nat) : Int) := by rw [IntWalk.i64_in _ (by omega)]; push_cast; rfl
      clear hx r1 r2
      go_wp2_with fail
      go_quiet (fail)
      go_wp2_with fail
      have hdr := below_drewN' (Below.refl wr.heap.size wr)
      exact ⟨⟨k + 1, by omega, by go_num, KI.out.below (hdr _), KB.out.trans ((hdr _).mono KB.out.size), row_on KO.out (hdr _), row_on KE.out (hdr _)⟩, by simp [intOf]; omega⟩
     ·go_wp2_with fail
      exact ⟨⟨j + 1, v1, by omega, by go_num, HRM2.out, KI.out, KB.out, HF2.out⟩, by simp [intOf]; omega⟩
  ·by_cases hlt' : j < n
   ·have hlj : (j : Int) < (n : Int) := by omega
    have hl60 : ¬ (j : Int) < 60 := by omega
    go_wp2_with fail
    with_reducible refine (audit_any v p m wr HI.out HG.out HGLr.out).mono ?_
    rintro _ w4 ⟨rfl, hi, hr⟩
    have HB4 := Lib.hid (HB00.out.trans ((HB.out.trans (hr.fresh HF.out HB.out.size).1).mono HB00.out.size))
    clear hi hr
    go_wp2_with fail
    go_ret
    exact ⟨rfl, HB4.out⟩
   ·have hlj : ¬ (j : Int) < (n : Int) := by omega
    go_wp2_with fail
    with_reducible refine (audit_any v p m wr HI.out HG.out HGLr.out).mono ?_
    rintro _ w4 ⟨rfl, hi, hr⟩
    have HB4 := Lib.hid (HB00.out.trans ((HB.out.trans (hr.fresh HF.out HB.out.size).1).mono HB00.out.size))
    clear hi hr
    go_wp2_with fail
    go_ret
    exact ⟨rfl, HB4.out⟩
end Go.Proofs.YtihhclhpjgeniaaGreatDoor
namespace Go.Proofs.YtihhclhpjgeniaaGreatDoor
open Go.ChangeShapes Go.WideShapes Go.ChangeAt Go.RowKit Go.Joins Go.Deep Go.Sort
theorem own : ownKnob Tryz.prog.godebug = none := by kernel_rfl
theorem laidOut : laidOutB Tryz.prog = true := by kernel_rfl
theorem cells9 : Tryz.prog.cellsOf 9 = 1 := by kernel_rfl
section
variable {H : Type} {enc : TypeId × Value → H} {W : World} {b0 : Nat} {v : Value} {d : DataW H} {p : List MemPlace}
set_option maxRecDepth 100000 in
theorem open_strL (hv : Value.okWide Tryz.prog W .any b0 22 v) (h : DataW.Trod enc Tryz.prog W 0 (fun _ => true) true 22 v d p) :
  ∃ A n c l, v = .slice A n c ∧ Reads W W.heap.size 1 A n (strL l) ∧ n ≤ 9223372036854775807 := by
 obtain ⟨A0, len0, cap0, rfl⟩ := okWide_slice Tryz.underlying22 hv
 obtain ⟨fuel, hf⟩ := h
 rcases open_strs Tryz.underlying22 Tryz.underlying9 cells9 hf with ⟨e, _⟩ | ⟨a, len, cap, m, Sx, e, _, hl, hm, hmm, _, hel⟩
 ·obtain ⟨rfl, rfl, rfl⟩ : A0 = none ∧ len0 = 0 ∧ cap0 = 0 := by simpa [Value.cells] using e
  exact ⟨none, 0, 0, [], rfl, Reads.nil, by omega⟩
 ·obtain ⟨rfl, rfl, rfl⟩ : A0 = some a ∧ len0 = len ∧ cap0 = cap := by simpa [Value.cells] using e
  simp only [if_true] at hmm
  refine ⟨some a, len0, cap0, (List.range len0).map fun i => (Sx i).data.toList, rfl, ⟨by rw [strL_len]; simp, fun h0 => ⟨a, rfl, ?_, fun j u hu => ?_⟩⟩, by unfold maxLen at hm; omega⟩
  ·have := World.block_lt_of_cell? _ _ (hel 0 (by omega)).1
   simpa [blockAdd] using this
  ·have hj : j < len0 := by
    have := (List.getElem?_eq_some_iff.1 hu).1
    rw [strL_len] at this; simpa using this
   rw [(hel j (by omega)).1, ← hu]
   simp [strL, hj]
theorem trodAll_below {W' : World} (hb : Below W.heap.size W W') : ∀ {ts : List TypeId} {vs : List Value} {ds : List (DataW H)} {ps : List MemPlace}, (∀ t ∈ ts, Tryz.prog.readableRec t = true ∧ t < Tryz.prog.types.size) → DataW.TrodAll enc Tryz.prog W 0 (fun _ => true) true ts vs ds ps →
  (∀ x ∈ ps, x.block < W.heap.size) → DataW.TrodAll enc Tryz.prog W' 0 (fun b => decide (b < W.heap.size)) true ts vs ds ps
 | [], [], [], _, _, h, _ => h
 | _ :: _, _ :: _, _ :: _, _, hT, ⟨p, q, h1, h2, e⟩, hlt =>
  ⟨p, q, Below.trod laidOut (hT _ (List.mem_cons.2 (Or.inl rfl))).1 (hT _ (List.mem_cons.2 (Or.inl rfl))).2 h1 hb (fun x hx => hlt x (by rw [e]; exact List.mem_append_left _ hx)),
   trodAll_below hb (fun t ht => hT t (List.mem_cons.2 (Or.inr ht))) h2 (fun x hx => hlt x (by rw [e]; exact List.mem_append_right _ hx)), e⟩
theorem law_post {f : Func} {s : ChangeSpec} {W' : World} {args : Array Value} {ds : List (DataW H)} {p : List MemPlace} (hvars : s.vars = []) (hts : ∀ t ∈ f.params.toList, Tryz.prog.readableRec t = true ∧ t < Tryz.prog.types.size)
  (hres : f.resultTypes = #[4]) (hfn : s.fn H ds = { results := [.lit (.bool true)], args := ds })
  (hW : DataW.Whole enc Tryz.prog f.params.toList s.vars false W args.toList ds [] p) (hA : DataW.TrodAll enc Tryz.prog W 0 (fun _ => true) true f.params.toList args.toList ds p) (hb : Below W.heap.size W W') :
  s.post enc Tryz.prog f false true false false W args (.bool true) W' := by
 have hlt : ∀ x ∈ p, x.block < W.heap.size := fun x hx => hW.lt x hx
 refine ⟨ds, [], p, [], p, [], hW, ?_, ?_, ?_, ?_, fun h => by cases h⟩
 ·rw [List.append_nil, hfn, hres]
  exact trodAll_mk1 (shut_bool Tryz.underlying4 true)
 ·rw [List.append_nil, hfn]
  exact trodAll_below hb hts hA hlt
 ·rw [List.append_nil, hfn, hvars]
  rfl
 ·exact World.keptBut_mono (fun x hx => ⟨hx, Or.inr (Or.inl hx)⟩) (hb.frame (· ∈ p))
end
abbrev laidR : List (String × DataW Unit) := [("math/bits.deBruijn32tab", Rows.laid_math_bits_deBruijn32tab), ("math/bits.deBruijn64tab", Rows.laid_math_bits_deBruijn64tab), ("internal/strconv.uint64pow10", Rows.laid_internal_strconv_uint64pow10), ("unicode/utf8.acceptRanges", Rows.laid_unicode_utf8_acceptRanges), ("unicode/utf8.first", Rows.laid_unicode_utf8_first)]
theorem lift_of {C : Checked} {laid : List (String × DataW Unit)} {M : World → Prop} (hM : ∀ W w : World, W.ShapedOpen C.prog → w.heap = W.heap → laidMetH C.prog laid w → M W) {H : Type} {enc : TypeId × Value → H} {os : Os} {f : FuncId} {fn : Func} {s : ChangeSpec} (own : ownKnob C.prog.godebug = none) (started : os.Started) (noInit : C.prog.inits.idxOf? f = none) (hfn : C.prog.funcs[f]? = some fn)
  (witness : ∃ (w : World) (tape : Tape) (i : Input), w.os = os ∧ (w.forCall tape i).Shaped C.prog ∧ i.vars = [] ∧ Input.okWide C.prog (w.forCall tape i) .any w.heap.size f i ∧
   ((s.pre enc C.prog fn [] false (w.forCall tape i).memory i.args ∧ laidMetH C.prog laid (w.forCall tape i).memory) ∧ sizedMet enc C.prog fn (OpenSpec.ofChange s) false (w.forCall tape i).memory i.args) ∧ ({} : Assume).holds C.prog (lone (Frame.enter C.prog f i.args .normal) [] (w.forCall tape i)))
  (contract : ∀ (W : World) (base : Nat) (args : Array Value) (ds gs : List (DataW H)) (before : List MemPlace),
   (∀ (j : Nat) t v, fn.params[j]? = some t → args[j]? = some v → Value.okWide C.prog W .any base t v) →
   DataW.Whole enc C.prog fn.params.toList s.vars false W args.toList ds gs before → M W →
   Calls C.prog f args W fun e W' => ∃ v, e = .returned v ∧ s.post enc C.prog fn false true false false W args v W') :
  ReturnsInHanded {} C os f .any (fun w args => (s.pre enc C.prog fn [] false w args ∧ laidMetH C.prog laid w) ∧ sizedMet enc C.prog fn (OpenSpec.ofChange s) false w args)
   (s.post enc C.prog fn false true false false) := by
 refine returnsInHanded_of_calls own started noInit witness ?_
 intro w tape i _ hshape _ hok hpre hholds
 obtain ⟨_, _, _, fn', hfn', _, _, _, _, hval⟩ := hok
 have e : fn' = fn := Option.some.inj (hfn'.symm.trans hfn)
 subst e
 obtain ⟨⟨⟨ds, gs, before, hw, hc⟩, hlm⟩, hz⟩ := hpre
 have hw' := DataW.Whole.of_heap (w' := w.forCall tape i) (by rfl) hw
 refine (contract (w.forCall tape i) w.heap.size i.args ds gs before hval hw' (hM _ (w.forCall tape i).memory hshape (by rfl) hlm)).mono fun e W' ⟨v, he, hp⟩ => ?_
 subst he
 exact ChangeSpec.post_blind hp
theorem var_heap {w w' : World} (h : w.heap = w'.heap) (P : Program) (n : String) : w.var? P n = w'.var? P n := by
 unfold World.var?
 rw [h]
theorem mx_of {w : World} (h : w.ShapedOpen Tryz.prog) : ∃ m, w.cell? ⟨1, 0, none⟩ = some (.int .i64 m) :=
 Go.Proofs.cell_of_shapedOpen_int (zero := #[.int .i64 0]) (t := 3) h (of_decide_eq_true (by kernel_rfl)) (by kernel_rfl) rfl (by kernel_rfl) (by kernel_rfl) Tryz.underlying3
def MW (w : World) : Prop := ∃ m, Gl m w
theorem tabType : (Tryz.prog.globals[0]?).map (·.type) = some 283 := by kernel_rfl
theorem lastGlob : Tryz.prog.globalNamed "math/bits.deBruijn64tab" = some 7 := by kernel_rfl
theorem size_of {w : World} {n : String} {g : Nat} {cs : Array Value} (hn : Tryz.prog.globalNamed n = some g) (h : w.var? Tryz.prog n = some cs) : g < w.heap.size := by
 unfold World.var? at h
 rw [hn] at h
 simp only [Option.bind_some] at h
 rcases Nat.lt_or_ge g w.heap.size with h1 | h1
 ·exact h1
 ·rw [Array.getElem?_eq_none h1] at h; cases h
theorem mw_of (W w : World) (h : W.ShapedOpen Tryz.prog) (hh : w.heap = W.heap) (hl : laidMetH Tryz.prog laidR w) : MW W := by
 rw [MakeChecks.laidMetH_plain _ _ _ (by kernel_rfl)] at hl
 obtain ⟨ps, h1, _⟩ := hl
 obtain ⟨_, _, _, _, _, _, _, _, _, _, h2, _⟩ := h1
 obtain ⟨_, _, _, _, _, _, _, _, z1, _, h3, _⟩ := h2
 obtain ⟨gt, tt, ct, fuelt, pt, qt, a1, a2, a3, a4, h4, _⟩ := h3
 obtain ⟨m, hm⟩ := mx_of h
 have hz := size_of lastGlob z1
 refine ⟨m, ?_, hm, by rw [← hh]; exact hz⟩
 obtain rfl : 0 = gt := Option.some.inj (tab_glob.symm.trans a1)
 obtain rfl : 283 = tt := Option.some.inj (tabType.symm.trans a2)
 have hc := Lib.cells_of_tab (k := .u64) (zs := Lib.pow10Tab) Tryz.underlying283 Tryz.underlying238 (by kernel_rfl) (by kernel_rfl) a4
 show W.var? Tryz.prog "internal/strconv.uint64pow10" = _
 rw [← var_heap hh, a3, ← hc]
end Go.Proofs.YtihhclhpjgeniaaGreatDoor
namespace Go.Proofs.YtihhclhpjgeniaaGreatDoor
open Go.ChangeShapes Go.WideShapes Go.ChangeAt Go.RowKit
theorem jf_may : Tryz.prog.mayEnter = true := by kernel_rfl
theorem jf_lifted : (Rows.roomRunsRow.lifted == Tryz.prog.liftsFinal) = true := by kernel_rfl
theorem jf_heard : Tryz.prog.stopsHeard = true := by kernel_rfl
theorem jf_keys : (Rows.roomRunsRow.plainKeys == Tryz.prog.plainKeys) = true := by kernel_rfl
theorem jf_laid : laidOutB Tryz.prog = true := by kernel_rfl
theorem jf_rowed : mapsRowed Tryz.prog = true := by kernel_rfl
end Go.Proofs.YtihhclhpjgeniaaGreatDoor
