/- Merged texts: Yi Yj Yk Xd Xf -/
import Derived.Test.YtihhclhpjgeniaaGreatDoorSA44
import Derived.Test.YtihhclhpjgeniaaGreatDoorSA45
import Derived.Test.YtihhclhpjgeniaaGreatDoorRows
import Derived.Test.YtihhclhpjgeniaaGreatDoorTie
import Derived.Test.YtihhclhpjgeniaaGreatDoorCards
import Derived.ProofKit
import Derived.Deep.Slices
import Derived.Deep.Strs
import Derived.Lib.SmallJoins
import Derived.Laws.IdiomArrays
import Derived.ChangeMaps5
import Derived.Lay
import Derived.LaidOnce
import Derived.LaidLaws
import Derived.HandedShaped
import Derived.SevenTiedAt
import Derived.Lib.LaidTab
import Derived.JoinedOf
namespace Go.Proofs.YtihhclhpjgeniaaGreatDoor
open Go.RowKit Go.Sort Go.MuLone
theorem Rs.out {v v' : RV} {p q : Nat} {w w' : World} (h : Rs p v w v' w') (hq : q < w.heap.size) (hn : ∀ k, v.F p k ∨ v.C k → k ≠ q) : ∀ k, v'.F p k ∨ v'.C k → k ≠ q := fun k hk e => by
  rcases hk with hk | hk
  · rcases h.f k hk with h1 | h1
    · exact hn k (.inl h1) e
    · omega
  · rcases h.c k hk with h1 | h1
    · exact hn k (.inr h1) e
    · omega
def knAt (j : Nat) : List UInt8 := knO.getD j []
theorem kn_run : ∀ j, j < 5 → doR (knAt j) (runR (knO.take j) rm0) = (0, runR (knO.take (j + 1)) rm0) := by
  have e1 : runR (knO.take 1) rm0 = kn1 := congrArg Prod.snd kn_1
  have e2 : runR (knO.take 2) rm0 = knR (ofH 40 10) (knW 0 0 0 0 []) 0 (-240) (knO.take 2) := by
    rw [show runR (knO.take 2) rm0 = (doR (knAt 1) (runR (knO.take 1) rm0)).2 from rfl, e1, show knAt 1 = knO.getD 1 [] from rfl, kn_2]
  have e3 : runR (knO.take 3) rm0 = knR (ofH 40 10) (knW 60 0 1 0 []) 0 (-240) (knO.take 3) := by
    rw [show runR (knO.take 3) rm0 = (doR (knAt 2) (runR (knO.take 2) rm0)).2 from rfl, e2, show knAt 2 = knO.getD 2 [] from rfl, kn_3]
  have e4 : runR (knO.take 4) rm0 = knR (ofH 40 10) (knW 60 0 2 0 []) 0 (-240) (knO.take 4) := by
    rw [show runR (knO.take 4) rm0 = (doR (knAt 3) (runR (knO.take 3) rm0)).2 from rfl, e3, show knAt 3 = knO.getD 3 [] from rfl, kn_4]
  have e5 : runR (knO.take 5) rm0 = knR (ofH 40 10) (knW 60 5 1 0 knC1) 5 (-240) knO := by
    rw [show runR (knO.take 5) rm0 = (doR (knAt 4) (runR (knO.take 4) rm0)).2 from rfl, e4, show knAt 4 = knO.getD 4 [] from rfl, kn_5]
  intro j hj
  match j, hj with
  | 0, _ => rw [e1]; exact kn_1
  | 1, _ => rw [e1, e2]; exact kn_2
  | 2, _ => rw [e2, e3]; exact kn_3
  | 3, _ => rw [e3, e4]; exact kn_4
  | 4, _ => rw [e4, e5]; exact kn_5
theorem kn_all : runR (knO.take 5) rm0 = knR (ofH 40 10) (knW 60 5 1 0 knC1) 5 (-240) knO := by
  have := kn_run 4 (by decide)
  have e4 := kn_run 3 (by decide)
  have e3 := kn_run 2 (by decide)
  have e2 := kn_run 1 (by decide)
  have e1 := kn_run 0 (by decide)
  rw [show knO.take 0 = [] from rfl, show runR [] rm0 = rm0 from rfl, show knAt 0 = knO.getD 0 [] from rfl, kn_1] at e1
  rw [← (Prod.mk.inj e1).2, show knAt 1 = knO.getD 1 [] from rfl, kn_2] at e2
  rw [← (Prod.mk.inj e2).2, show knAt 2 = knO.getD 2 [] from rfl, kn_3] at e3
  rw [← (Prod.mk.inj e3).2, show knAt 3 = knO.getD 3 [] from rfl, kn_4] at e4
  rw [← (Prod.mk.inj e4).2, show knAt 4 = knO.getD 4 [] from rfl, kn_5] at this
  exact (Prod.mk.inj this).2.symm
def knRow : Array Value := #[.string { data := #[98, 117, 121, 32, 97, 32, 49, 48, 32, 49, 48, 48, 32, 50, 52, 48] }, .string { data := #[119, 105, 103, 32, 119, 32, 97, 32, 54, 48, 32, 56] }, .string { data := #[107, 110, 111, 116, 32, 119, 32, 54, 48] }, .string { data := #[108, 101, 110, 100, 32, 119] }, .string { data := #[98, 97, 99, 107, 32, 119, 32, 53] }]
theorem kn_row : ∀ j, j < 5 → knRow[j]? = some (.string (mkB (knAt j))) := by
  intro j hj
  match j, hj with
  | 0, _ => rfl
  | 1, _ => rfl
  | 2, _ => rfl
  | 3, _ => rfl
  | 4, _ => rfl
theorem kn_strS : ({ data := #[115, 101, 108, 108, 32, 119, 32, 50, 48, 48, 48] } : ByteArray) = mkB knS := rfl
theorem kn_strM : ({ data := #[109, 101, 110, 100, 32, 119, 32, 97, 32, 53] } : ByteArray) = mkB knM := rfl
theorem doR_good {r : Rm} {t : List UInt8} (h : r.Good) : (doR t r).2.Good := good_do h t
theorem bun_knR {h : Hr} {w : Wg} {lost cash : Int} {l : List (List UInt8)} : (knR h w lost cash l).bun [97] = some 0 := rfl
theorem cnt_kn : (ofH 40 10).cnt = 40 := by kernel_rfl
set_option maxRecDepth 100000 in
set_option maxHeartbeats 1000000 in
theorem known_any (m : Int) (w : World) (hgl : Gl m w) : Calls Tryz.prog 20 #[] w fun r w' => r = .returned (.bool true) ∧ Below w.heap.size w w' := by
  have HGL := Lib.hid hgl
  clear hgl
  go_enter Tryz.func20, Tryz.ntmps20
  go_wp2_with fail
  with_reducible refine (new_any w HGL.out.g).mono ?_
  rintro _ w1 ⟨v0, p, rfl, hrm, hi, hF, hb⟩
  have HI0 := Lib.hid hi
  have HF0 := Lib.hid hF
  have HB0 := Lib.hid hb
  have HRM0 := Lib.hid hrm
  clear hi hF hb hrm
  go_wp2_with fail
  have hb1 := belowA w1 (.cells knRow 9)
  have HI1 := Lib.hid (HI0.out.below hb1)
  have HB1 := Lib.hid (HB0.out.trans (hb1.mono HB0.out.size))
  have HQ1 : Hid (∀ k, v0.F p k ∨ v0.C k → k ≠ w1.heap.size) := Lib.hid (fun k hk e => by have := HI0.out.lt hk; omega)
  have HK1 : Hid (At (w1.alloc (.cells knRow 9)) w1.heap.size knRow 9) := Lib.hid (At.new w1 knRow 9)
  have HS1 := Lib.hid HB0.out.size
  clear hb1 HI0 HB0
  change Code.wp Tryz.prog _ _ _ (w1.alloc (.cells knRow 9))
  generalize w1.alloc (.cells knRow 9) = w2 at HI1 HB1 HK1 ⊢
  generalize w1.heap.size = q at HQ1 HK1 HS1 ⊢
  go_loopw [3] (fun i wr => ∃ (j : Nat) (v : RV), j ≤ 5 ∧ i = .int .i64 j ∧ v.rm = runR (knO.take j) rm0 ∧ v.In 0 p wr ∧ At wr q knRow 9 ∧ (∀ k, v.F p k ∨ v.C k → k ≠ q) ∧ Below w.heap.size w wr ∧ ∀ k, v.F p k ∨ v.C k → w.heap.size ≤ k) (fun i _ => 5 - (intOf i).toNat)
  case atStart => exact ⟨0, v0, by omega, rfl, HRM0.out, HI1.out, HK1.out, HQ1.out, HB1.out, HF0.out⟩
  case round =>
    obtain ⟨j, v, hj, rfl, hrm, hi, hk, hq, hb, hF⟩ := hrel
    have HRM := Lib.hid hrm
    have HI := Lib.hid hi
    have HK := Lib.hid hk
    have HQ := Lib.hid hq
    have HB := Lib.hid hb
    have HF := Lib.hid hF
    clear hrm hi hk hq hb hF HI1 HF0 HB1 HRM0 HK1 HQ1
    have HGLr := Lib.hid (HGL.out.below HB.out)
    have HG : Hid v.rm.Good := Lib.hid (by rw [HRM.out]; exact runG _)
    by_cases hlt : j < 5
    · have ct : wr.cell? ⟨q, j, none⟩ = some (.string (mkB (knAt j))) := (HK.out.cell j).trans (kn_row j hlt)
      have hlj : (j : Int) < 5 := by omega
      have hE := kn_run j hlt
      rw [← HRM.out] at hE
      have HE := Lib.hid hE
      clear hE
      go_wp2_with fail
      with_reducible refine (do_any v p _ m wr HI.out HG.out HGLr.out).mono ?_
      rintro _ w3 ⟨rfl, v1, hrm, hi, hr⟩
      have HI2 := Lib.hid hi
      have HRM2 : Hid (v1.rm = runR (knO.take (j + 1)) rm0) := Lib.hid (by rw [hrm, HE.out])
      obtain ⟨hb2, hF2⟩ := hr.fresh HF.out HB.out.size
      have HB2 := Lib.hid (HB.out.trans hb2)
      have HF2 := Lib.hid hF2
      have HQ2 := Lib.hid (hr.out HK.out.lt HQ.out)
      have HK2 := Lib.hid (HK.out.kp hr.kp fun hf => HQ.out q (.inl hf) rfl)
      rw [show (doR (knAt j) v.rm).1 = 0 by rw [HE.out]]
      clear hi hrm hr hb2 hF2 HI HB HF HRM HG HGLr ct HK HQ
      go_wp2_with fail
      exact ⟨⟨j + 1, v1, by omega, by go_num, HRM2.out, HI2.out, HK2.out, HQ2.out, HB2.out, HF2.out⟩, by simp [intOf]; omega⟩
    · obtain rfl : j = 5 := by omega
      have HRM5 := Lib.hid (HRM.out.trans kn_all)
      have HW5 : Hid (knR (ofH 40 10) (knW 60 5 1 0 knC1) 5 (-240) knO).Good := Lib.hid (by rw [← HRM5.out]; exact HG.out)
      have hlb : v.bs.length ≤ 12 := by have := HG.out.ok.nb; simpa [RV.rm] using this
      clear HRM
      go_wp2_with fail
      with_reducible refine (bundle_any v p [97] wr HI.out hlb).mono ?_
      rintro _ w3 ⟨u, e, rfl, hu, hm, hi, hr⟩
      rw [HRM5.out, bun_knR] at hm
      obtain ⟨rfl, hh⟩ := hm
      have HI3 := Lib.hid hi
      have HU3 := Lib.hid hu
      have HH : Hid (u.h.cnt = 40) := Lib.hid (by rw [hh]; exact cnt_kn)
      obtain ⟨hb3, hF3⟩ := hr.fresh HF.out HB.out.size
      have HB3 := Lib.hid (HB.out.trans hb3)
      have HF3 := Lib.hid hF3
      clear hi hu hh hr hb3 hF3 HI HB HF HK HQ hlb
      go_wp2_with fail
      have hb4 := belowA w3 (.cells u.arr 56)
      have HI4 := Lib.hid (HI3.out.below hb4)
      have HB4 := Lib.hid (HB3.out.trans (hb4.mono HB3.out.size))
      have HU4 := Lib.hid (HU3.out.below hb4)
      clear hb4 HI3 HB3 HU3
      go_wp2_with fail
      with_reducible refine (countB_any u _ HU4.out).mono ?_
      rintro _ w5 ⟨rfl, hb⟩
      rw [HH.out]
      have HI5 := Lib.hid (HI4.out.below hb)
      have HB5 := Lib.hid (HB4.out.trans (hb.mono HB4.out.size))
      clear hb HI4 HB4 HU4 HH
      generalize w3.alloc (.cells u.arr 56) = w4 at *
      have HG5 : Hid v.rm.Good := Lib.hid (by rw [HRM5.out]; exact HW5.out)
      have HGL5 := Lib.hid (HGL.out.below HB5.out)
      go_wp2_with fail
      have HF5 := HF3
      clear HF3
      rw [kn_strS]
      with_reducible refine (do_any v p knS m w5 HI5.out HG5.out HGL5.out).mono ?_
      rintro _ w6 ⟨rfl, v6, hrm, hi, hr⟩
      have HI6 := Lib.hid hi
      have HRM6 : Hid (v6.rm = knR (ofH 40 10) (knW 60 5 1 0 knC1) 5 (-240) knO) := Lib.hid (by rw [hrm, HRM5.out, kn_6])
      rw [show (doR knS v.rm).1 = 13 by rw [HRM5.out, kn_6]]
      obtain ⟨hb2, hF2⟩ := hr.fresh HF5.out HB5.out.size
      have HB6 := Lib.hid (HB5.out.trans hb2)
      have HF6 := Lib.hid hF2
      have HG6 : Hid v6.rm.Good := Lib.hid (by rw [hrm]; exact doR_good HG5.out)
      have HGL6 := Lib.hid (HGL.out.below HB6.out)
      clear hi hrm hr hb2 hF2 HI5 HB5 HG5 HGL5 HRM5 HF5
      go_wp2_with fail
      rw [kn_strM]
      with_reducible refine (do_any v6 p knM m w6 HI6.out HG6.out HGL6.out).mono ?_
      rintro _ w7 ⟨rfl, v7, hrm, hi, hr⟩
      have HI7 := Lib.hid hi
      have HRM7 : Hid (v7.rm = knR (ofH 35 10) (knW 60 0 1 0 knC2) 5 (-240) (knO ++ [knM])) := Lib.hid (by rw [hrm, HRM6.out, kn_7])
      rw [show (doR knM v6.rm).1 = 0 by rw [HRM6.out, kn_7]]
      obtain ⟨hb2, hF2⟩ := hr.fresh HF6.out HB6.out.size
      have HB7 := Lib.hid (HB6.out.trans hb2)
      have HF7 := Lib.hid hF2
      have HG7 : Hid v7.rm.Good := Lib.hid (by rw [hrm]; exact doR_good HG6.out)
      have HGL7 := Lib.hid (HGL.out.below HB7.out)
      clear hi hrm hr hb2 hF2 HI6 HB6 HG6 HGL6 HRM6 HF6
      go_wp2_with fail
      rw [kn_strS]
      with_reducible refine (do_any v7 p knS m w7 HI7.out HG7.out HGL7.out).mono ?_
      rintro _ w8 ⟨rfl, v8, hrm, hi, hr⟩
      have HI8 := Lib.hid hi
      have HRM8 : Hid (v8.rm = knR (ofH 35 10) (knW 60 0 3 2000 knC2) 5 1760 (knO ++ [knM] ++ [knS])) := Lib.hid (by rw [hrm, HRM7.out, kn_8])
      rw [show (doR knS v7.rm).1 = 0 by rw [HRM7.out, kn_8]]
      obtain ⟨hb2, hF2⟩ := hr.fresh HF7.out HB7.out.size
      have HB8 := Lib.hid (HB7.out.trans hb2)
      have HF8 := Lib.hid hF2
      have HG8 : Hid v8.rm.Good := Lib.hid (by rw [hrm]; exact doR_good HG7.out)
      have HGL8 := Lib.hid (HGL.out.below HB8.out)
      clear hi hrm hr hb2 hF2 HI7 HB7 HG7 HGL7 HRM7 HF7
      go_wp2_with fail
      have HC : Hid (v8.cash = 1760) := Lib.hid (by have := congrArg Rm.cash HRM8.out; exact this)
      with_reducible refine (cash_any v8 p w8 HI8.out).mono ?_
      rintro _ w9 ⟨rfl, hi, hr⟩
      rw [HC.out]
      obtain ⟨hb2, _⟩ := hr.fresh HF8.out HB8.out.size
      have HB9 := Lib.hid (HB8.out.trans hb2)
      clear hi hr hb2
      go_wp2_with fail
      go_ret
      exact ⟨rfl, HB9.out⟩
end Go.Proofs.YtihhclhpjgeniaaGreatDoor
namespace Go.Proofs.YtihhclhpjgeniaaGreatDoor
open Go.RowKit Go.Sort Go.MuLone
def longB (l : List (List UInt8)) : Bool := l.any (fun t => decide (400 < t.length)) || decide (400 < l.length)
theorem longB_take {l : List (List UInt8)} {j : Nat} {t : List UInt8} (h : l[j]? = some t) (ht : 400 < t.length) : longB l = true := by
  unfold longB
  rw [Bool.or_eq_true]
  exact .inl (List.any_eq_true.2 ⟨t, List.mem_of_getElem? h, by simpa using ht⟩)
set_option maxRecDepth 100000 in
theorem long_any (A : Option Addr) (n c : Nat) (l : List (List UInt8)) (w : World) (hl : Reads w w.heap.size 1 A n (strL l)) (hn : n ≤ 9223372036854775807) : Calls Tryz.prog 19 #[.slice A n c] w fun r w' => r = .returned (.bool (longB l)) ∧ w' = w := by
  have hnl : n = l.length := by have := hl.1; rw [strL_len] at this; omega
  have HL := Lib.hid hl
  have HN := Lib.hid hnl
  clear hl hnl
  go_enter Tryz.func19, Tryz.ntmps19
  go_wp2_with fail
  go_loopw [3] (fun i wr => ∃ j : Nat, j ≤ n ∧ i = .int .i64 j ∧ wr = w ∧ ∀ t ∈ l.take j, t.length ≤ 400) (fun i _ => n - (intOf i).toNat)
  case atStart => exact ⟨0, Nat.zero_le _, rfl, rfl, fun t ht => by simp at ht⟩
  case round =>
    obtain ⟨j, hj, rfl, rfl, hs⟩ := hrel
    have HS := Lib.hid hs
    clear hs
    by_cases hlt : j < n
    · have hjl : j < l.length := by have := HN.out; omega
      obtain ⟨t, ht⟩ : ∃ t, l[j]? = some t := ⟨l[j], List.getElem?_eq_getElem hjl⟩
      have HT := Lib.hid ht
      obtain ⟨ad, e1, hbk, hc⟩ := HL.out.2 (by omega)
      have ct : wr.cell? (ad.add j) = some (.string (mkB t)) := hc j _ (by simp [strL, ht])
      have hlj : (j : Int) < (n : Int) := by omega
      subst e1
      by_cases h4 : 400 < t.length
      · have h4' : (400 : Int) < (t.length : Int) := by omega
        clear hc ht
        go_wp2_with fail
        go_ret
        exact ⟨by rw [longB_take HT.out h4]; rfl, rfl⟩
      · have h4' : ¬ (400 : Int) < (t.length : Int) := by omega
        have v1 : IntKind.i64.wrap ((j : Int) + 1) = ((j + 1 : Nat) : Int) := by rw [IntWalk.i64_in _ (by omega)]; push_cast; rfl
        clear hc ht
        go_wp2_with fail
        refine ⟨⟨j + 1, by omega, by go_num, trivial, fun u hu => ?_⟩, by simp [intOf]; omega⟩
        rw [take_succ_of HT.out] at hu
        rcases List.mem_append.1 hu with hu | hu
        · exact HS.out u hu
        · obtain rfl := List.mem_singleton.1 hu; omega
    · obtain rfl : j = n := by omega
      have hlj : ¬ (j : Int) < (j : Int) := by omega
      go_wp2_with fail
      go_ret
      refine ⟨?_, rfl⟩
      have e : l.take j = l := List.take_of_length_le (by have := HN.out; omega)
      have hs := HS.out
      rw [e] at hs
      have h1 : (l.any fun t => decide (400 < t.length)) = false := List.any_eq_false.2 fun t ht => by have := hs t ht; simp; omega
      unfold longB
      rw [h1, Bool.false_or, ← HN.out]
      show Ending.returned (.bool (decide ((400:Int) < (j:Int)))) = _
      rw [decide_eq_decide.2 (show (400:Int) < (j:Int) ↔ 400 < j by omega)]
end Go.Proofs.YtihhclhpjgeniaaGreatDoor
namespace Go.Proofs.YtihhclhpjgeniaaGreatDoor
open Go.RowKit Go.Sort Go.MuLone
def RetT (w : World) (r : Ending) (w' : World) : Prop := r = .returned (.bool true) ∧ Below w.heap.size w w'
theorem cell_low {N : Nat} {w w' : World} {a : Addr} {j : Nat} (h : Below N w w') (ha : a.block < N) : w'.cell? (a.add j) = w.cell? (a.add j) := h.cell (by simpa [blockAdd] using ha)
theorem errs_at (l : List (List UInt8)) : ∀ (r : Rm) (j : Nat) (t : List UInt8), l[j]? = some t → (errsR l r)[j]? = some (doR t (runR (l.take j) r)).1 := by
  induction l with
  | nil => intro r j t h; simp at h
  | cons a l ih =>
    intro r j t h
    cases j with
    | zero => simp at h; subst h; rfl
    | succ j =>
      simp at h
      show (errsR l (doR a r).2)[j]? = _
      rw [ih _ _ _ h]
      rfl
set_option maxRecDepth 100000 in
set_option maxHeartbeats 1000000 in
theorem lawRuns_any (A : Option Addr) (n c : Nat) (l : List (List UInt8)) (w : World) (hmw : ∃ m, Gl m w) (hl : Reads w w.heap.size 1 A n (strL l)) (hn : n ≤ 9223372036854775807) : Calls Tryz.prog 7 #[.slice A n c] w (RetT w) := by
  obtain ⟨m, hgl⟩ := hmw
  have hnl : n = l.length := by have := hl.1; rw [strL_len] at this; omega
  have HL := Lib.hid hl
  have HN := Lib.hid hnl
  have HGL := Lib.hid hgl
  clear hl hnl hgl
  go_enter Tryz.func7, Tryz.ntmps7
  go_wp2_with fail
  with_reducible refine (long_any A n c l w HL.out hn).mono ?_
  rintro _ w0 ⟨rfl, rfl⟩
  have known : ∀ (W : World) (hb : Below w0.heap.size w0 W), Calls Tryz.prog 20 #[] W fun r w' => r = .returned (.bool true) ∧ Below w0.heap.size w0 w' := fun W hb =>
    (known_any m W (HGL.out.below hb)).mono fun r w' h => ⟨h.1, hb.trans (h.2.mono hb.size)⟩
  have HKN := Lib.hid known
  clear known
  by_cases h3 : 300 < n
  · have h3a : (300 : Int) < (n : Int) := by omega
    have h3b : ¬ (n : Int) ≤ 300 := by omega
    have HRT : Hid (Calls Tryz.prog 35 #[.slice A n c] w0 fun r w' => r = .returned (.tuple #[.slice none 0 0, .string (mkB []), .int .i64 4]) ∧ Below w0.heap.size w0 w') := Lib.hid ((run_any A n c l m w0 HL.out HGL.out).mono fun r w' h => by
      obtain ⟨h1, h2⟩ := h
      rw [if_pos (by have := HN.out; omega)] at h1
      exact ⟨h1, h2⟩)
    cases hlb : longB l
    all_goals
      go_wp2_with fail
      with_reducible refine HRT.out.mono ?_
      rintro _ w1 ⟨rfl, hb⟩
      have HB := Lib.hid hb
      clear hb
      go_wp2_with fail
      with_reducible refine (HKN.out w1 HB.out).mono ?_
      rintro _ w2 ⟨rfl, hb⟩
      go_wp2_with fail
      go_ret
      exact ⟨rfl, hb⟩
  · have h3a : ¬ (300 : Int) < (n : Int) := by omega
    have h3b : (n : Int) ≤ 300 := by omega
    cases hlb : longB l with
    | true =>
      go_wp2_with fail
      with_reducible refine (HKN.out w0 (Below.refl _ _)).mono ?_
      rintro _ w2 ⟨rfl, hb⟩
      go_wp2_with fail
      go_ret
      exact ⟨rfl, hb⟩
    | false =>
      go_wp2_with fail
      with_reducible refine (run_any A n c l m w0 HL.out HGL.out).mono ?_
      rintro _ w1 ⟨h1, hb⟩
      rw [if_neg (by have := HN.out; omega)] at h1
      obtain ⟨B, d, rfl, he⟩ := h1
      have HE := Lib.hid he
      have HB1 := Lib.hid hb
      have HGL1 := Lib.hid (HGL.out.below hb)
      rw [← HN.out] at HE ⊢
      clear he hb
      go_wp2_with fail
      with_reducible refine (new_any w1 HGL1.out.g).mono ?_
      rintro _ w2 ⟨v0, p, rfl, hrm, hi, hF, hb⟩
      have HI0 := Lib.hid hi
      have HF0 := Lib.hid hF
      have HB0 := Lib.hid hb
      have HRM0 := Lib.hid hrm
      clear hi hF hb hrm
      go_wp2_with fail
      go_loopw [7] (fun i wr => ∃ (j : Nat) (v : RV), j ≤ n ∧ i = .int .i64 j ∧ v.rm = runR (l.take j) rm0 ∧ v.In 0 p wr ∧ Below w1.heap.size w1 wr ∧ ∀ k, v.F p k ∨ v.C k → w1.heap.size ≤ k) (fun i _ => n - (intOf i).toNat)
      case atStart => exact ⟨0, v0, Nat.zero_le _, rfl, HRM0.out, HI0.out, HB0.out, HF0.out⟩
      case round =>
        obtain ⟨j, v, hj, rfl, hrm, hi, hb, hF⟩ := hrel
        have HRM := Lib.hid hrm
        have HI := Lib.hid hi
        have HB := Lib.hid hb
        have HF := Lib.hid hF
        clear hrm hi hb hF HI0 HF0 HB0 HRM0
        have HGLr := Lib.hid (HGL1.out.below HB.out)
        have HG : Hid v.rm.Good := Lib.hid (by rw [HRM.out]; exact runG _)
        by_cases hlt : j < n
        · have hjl : j < l.length := by have := HN.out; omega
          obtain ⟨t, ht⟩ : ∃ t, l[j]? = some t := ⟨l[j], List.getElem?_eq_getElem hjl⟩
          have HTK := Lib.hid (take_succ_of ht)
          have HES : Hid ((errsR l rm0)[j]? = some (doR t v.rm).1) := Lib.hid (by rw [HRM.out]; exact errs_at l rm0 j t ht)
          obtain ⟨ad, e1, hbk, hc⟩ := HL.out.2 (by omega)
          obtain ⟨ae, e2, hbk2, hc2⟩ := HE.out.2 (by omega)
          have hlj : (j : Int) < (n : Int) := by omega
          have f1 : ∀ W, Below w1.heap.size w1 W → W.cell? (ad.add j) = some (.string (mkB t)) := fun W hW => by
            have := HB1.out.size
            rw [← hc j _ (by simp [strL, ht])]
            exact cell_low (HB1.out.trans (hW.mono this)) hbk
          have f2 : ∀ W, Below w1.heap.size w1 W → W.cell? (ae.add j) = some (.int .i64 (doR t v.rm).1) := fun W hW => by
            rw [← hc2 j _ (by simp [ints, HES.out])]
            exact cell_low hW hbk2
          have F1 := Lib.hid f1
          have F2 := Lib.hid f2
          subst e1 e2
          clear hc hc2 ht f1 f2
          go_wp2_with fail
          refine wp_region_hj [0, 1, 2, 3, 4, 6, 7, 8, 9] [] [5, 10] (fun W => Below w1.heap.size w1 W) mixed (by kernel_rfl) (fun W W' h hb => h.trans (hb.mono h.size)) (HB.out.trans ((below_drew _).mono HB.out.size)) ?_
          iterate 9
            refine canonG_read (v := ?_) rfl (by rfl) ?_ ?_
            rotate_left
            · intro W hS
              have c1 := F1.out W hS
              have c2 := F2.out W hS
              go_simp <;> with_reducible rfl
            simp only [List.getElem_toArray, List.getElem_cons_zero, List.getElem_cons_succ, Act.put, List.setIfInBounds_toArray, List.set_cons_succ, List.set_cons_zero]
          refine canonG_nil ?_
          refine tailJ_one (t := 5) (ts' := [10]) (ps' := []) (ns := []) (by kernel_rfl) rfl (by kernel_rfl) (by kernel_rfl) rfl ?_
          intro W6 hb
          have hb6 : Below wr.heap.size wr W6 := undrew hb
          have HI6 := Lib.hid (HI.out.below hb6)
          have HB6 := Lib.hid (HB.out.trans (hb6.mono HB.out.size))
          have HGL6 := Lib.hid (HGLr.out.below hb6)
          clear hb hb6
          go_wp2_with fail
          with_reducible refine (do_any v p t m W6 HI6.out HG.out HGL6.out).mono ?_
          rintro _ w3 ⟨rfl, v1, hrm, hi, hr⟩
          have HI2 := Lib.hid hi
          have HRM2 : Hid (v1.rm = runR (l.take (j + 1)) rm0) := Lib.hid (by rw [hrm, HRM.out, HTK.out, runR_snoc])
          obtain ⟨hb2, hF2⟩ := hr.fresh HF.out HB6.out.size
          have HB2 := Lib.hid (HB6.out.trans hb2)
          have HF2 := Lib.hid hF2
          clear hi hrm hr hb2 hF2 HI HB HF HRM HG HGLr HI6 HB6 HGL6 HES F1 F2
          generalize (doR t v.rm).1 = e
          go_wp2_with fail
          refine ⟨HB2.out, canonG_nil ?_⟩
          refine tailJ_last (t := 10) (by kernel_rfl) rfl ?_
          intro W8 hb
          have HI8 := Lib.hid (HI2.out.below hb)
          have HB8 := Lib.hid (HB2.out.trans (hb.mono HB2.out.size))
          clear hb HI2 HB2
          have v1' : IntKind.i64.wrap ((j : Int) + 1) = ((j + 1 : Nat) : Int) := by rw [IntWalk.i64_in _ (by omega)]; push_cast; rfl
          go_wp2_with fail
          refine NoPanic.normal ?_
          go_wp2_with fail
          exact ⟨⟨j + 1, v1, by omega, by go_num, HRM2.out, HI8.out, HB8.out, HF2.out⟩, by simp [intOf]; omega⟩
        · obtain rfl : j = n := by omega
          have hlj : ¬ (j : Int) < (j : Int) := by omega
          have e : l.take j = l := List.take_of_length_le (by have := HN.out; omega)
          rw [e] at HRM
          have hd3 : v.day.length ≤ 300 := HG.out.day
          have hd4 : ∀ t ∈ v.day, t.length ≤ 60 := fun t ht => (HG.out.lines t ht).2
          have HDY : Hid ((runR l rm0).day = v.day) := Lib.hid (by have := congrArg Rm.day HRM.out; exact this.symm)
          rw [HDY.out]
          go_wp2_with fail
          with_reducible refine (day_any v p wr HI.out hd3 hd4).mono ?_
          rintro _ w3 ⟨rfl, hi, hr⟩
          obtain ⟨hb2, _⟩ := hr.fresh HF.out HB.out.size
          have HB2 := Lib.hid (HB1.out.trans ((HB.out.trans hb2).mono HB1.out.size))
          clear hi hr hb2
          go_wp2_with fail
          with_reducible refine (HKN.out w3 HB2.out).mono ?_
          rintro _ w4 ⟨rfl, hb⟩
          go_wp2_with fail
          go_ret
          exact ⟨rfl, hb⟩
end Go.Proofs.YtihhclhpjgeniaaGreatDoor
namespace Go.Proofs.YtihhclhpjgeniaaGreatDoor
open Go.ChangeShapes Go.WideShapes Go.ChangeAt Go.RowKit Go.Joins Go.Deep Go.Sort
theorem own : ownKnob Tryz.prog.godebug = none := by kernel_rfl
theorem laidOut : laidOutB Tryz.prog = true := by kernel_rfl
theorem cells9 : Tryz.prog.cellsOf 9 = 1 := by kernel_rfl
section
variable {H : Type} {enc : TypeId × Value → H} {W : World} {b0 : Nat} {v : Value} {d : DataW H} {p : List MemPlace}
set_option maxRecDepth 100000 in
theorem open_strL (hv : Value.okWide Tryz.prog W .any b0 22 v) (h : DataW.Trod enc Tryz.prog W 0 (fun _ => true) true 22 v d p) :
    ∃ A n c l, v = .slice A n c ∧ Reads W W.heap.size 1 A n (strL l) ∧ n ≤ 9223372036854775807 := by
  obtain ⟨A0, len0, cap0, rfl⟩ := okWide_slice Tryz.underlying22 hv
  obtain ⟨fuel, hf⟩ := h
  rcases open_strs Tryz.underlying22 Tryz.underlying9 cells9 hf with ⟨e, _⟩ | ⟨a, len, cap, m, Sx, e, _, hl, hm, hmm, _, hel⟩
  · obtain ⟨rfl, rfl, rfl⟩ : A0 = none ∧ len0 = 0 ∧ cap0 = 0 := by simpa [Value.cells] using e
    exact ⟨none, 0, 0, [], rfl, Reads.nil, by omega⟩
  · obtain ⟨rfl, rfl, rfl⟩ : A0 = some a ∧ len0 = len ∧ cap0 = cap := by simpa [Value.cells] using e
    simp only [if_true] at hmm
    refine ⟨some a, len0, cap0, (List.range len0).map fun i => (Sx i).data.toList, rfl, ⟨by rw [strL_len]; simp, fun h0 => ⟨a, rfl, ?_, fun j u hu => ?_⟩⟩, by unfold maxLen at hm; omega⟩
    · have := World.block_lt_of_cell? _ _ (hel 0 (by omega)).1
      simpa [blockAdd] using this
    · have hj : j < len0 := by
        have := (List.getElem?_eq_some_iff.1 hu).1
        rw [strL_len] at this; simpa using this
      rw [(hel j (by omega)).1, ← hu]
      simp [strL, hj]
theorem trodAll_below {W' : World} (hb : Below W.heap.size W W') : ∀ {ts : List TypeId} {vs : List Value} {ds : List (DataW H)} {ps : List MemPlace}, (∀ t ∈ ts, Tryz.prog.readableRec t = true ∧ t < Tryz.prog.types.size) → DataW.TrodAll enc Tryz.prog W 0 (fun _ => true) true ts vs ds ps →
    (∀ x ∈ ps, x.block < W.heap.size) → DataW.TrodAll enc Tryz.prog W' 0 (fun b => decide (b < W.heap.size)) true ts vs ds ps
  | [], [], [], _, _, h, _ => h
  | _ :: _, _ :: _, _ :: _, _, hT, ⟨p, q, h1, h2, e⟩, hlt =>
    ⟨p, q, Below.trod laidOut (hT _ (List.mem_cons.2 (Or.inl rfl))).1 (hT _ (List.mem_cons.2 (Or.inl rfl))).2 h1 hb (fun x hx => hlt x (by rw [e]; exact List.mem_append_left _ hx)),
      trodAll_below hb (fun t ht => hT t (List.mem_cons.2 (Or.inr ht))) h2 (fun x hx => hlt x (by rw [e]; exact List.mem_append_right _ hx)), e⟩
theorem law_post {f : Func} {s : ChangeSpec} {W' : World} {args : Array Value} {ds : List (DataW H)} {p : List MemPlace} (hvars : s.vars = []) (hts : ∀ t ∈ f.params.toList, Tryz.prog.readableRec t = true ∧ t < Tryz.prog.types.size)
    (hres : f.resultTypes = #[4]) (hfn : s.fn H ds = { results := [.lit (.bool true)], args := ds })
    (hW : DataW.Whole enc Tryz.prog f.params.toList s.vars false W args.toList ds [] p) (hA : DataW.TrodAll enc Tryz.prog W 0 (fun _ => true) true f.params.toList args.toList ds p) (hb : Below W.heap.size W W') :
    s.post enc Tryz.prog f false true false false W args (.bool true) W' := by
  have hlt : ∀ x ∈ p, x.block < W.heap.size := fun x hx => hW.lt x hx
  refine ⟨ds, [], p, [], p, [], hW, ?_, ?_, ?_, ?_, fun h => by cases h⟩
  · rw [List.append_nil, hfn, hres]
    exact trodAll_mk1 (shut_bool Tryz.underlying4 true)
  · rw [List.append_nil, hfn]
    exact trodAll_below hb hts hA hlt
  · rw [List.append_nil, hfn, hvars]
    rfl
  · exact World.keptBut_mono (fun x hx => ⟨hx, Or.inr (Or.inl hx)⟩) (hb.frame (· ∈ p))
end
abbrev laidR : List (String × DataW Unit) := [("math/bits.deBruijn32tab", Rows.laid_math_bits_deBruijn32tab), ("math/bits.deBruijn64tab", Rows.laid_math_bits_deBruijn64tab), ("internal/strconv.uint64pow10", Rows.laid_internal_strconv_uint64pow10), ("unicode/utf8.acceptRanges", Rows.laid_unicode_utf8_acceptRanges), ("unicode/utf8.first", Rows.laid_unicode_utf8_first)]
theorem lift_of {C : Checked} {laid : List (String × DataW Unit)} {M : World → Prop} (hM : ∀ W w : World, W.ShapedOpen C.prog → w.heap = W.heap → laidMetH C.prog laid w → M W) {H : Type} {enc : TypeId × Value → H} {os : Os} {f : FuncId} {fn : Func} {s : ChangeSpec} (own : ownKnob C.prog.godebug = none) (started : os.Started) (noInit : C.prog.inits.idxOf? f = none) (hfn : C.prog.funcs[f]? = some fn)
    (witness : ∃ (w : World) (tape : Tape) (i : Input), w.os = os ∧ (w.forCall tape i).Shaped C.prog ∧ i.vars = [] ∧ Input.okWide C.prog (w.forCall tape i) .any w.heap.size f i ∧
      ((s.pre enc C.prog fn [] false (w.forCall tape i).memory i.args ∧ laidMetH C.prog laid (w.forCall tape i).memory) ∧ sizedMet enc C.prog fn (OpenSpec.ofChange s) false (w.forCall tape i).memory i.args) ∧ ({} : Assume).holds C.prog (lone (Frame.enter C.prog f i.args .normal) [] (w.forCall tape i)))
    (contract : ∀ (W : World) (base : Nat) (args : Array Value) (ds gs : List (DataW H)) (before : List MemPlace),
      (∀ (j : Nat) t v, fn.params[j]? = some t → args[j]? = some v → Value.okWide C.prog W .any base t v) →
      DataW.Whole enc C.prog fn.params.toList s.vars false W args.toList ds gs before → M W →
      Calls C.prog f args W fun e W' => ∃ v, e = .returned v ∧ s.post enc C.prog fn false true false false W args v W') :
    ReturnsInHanded {} C os f .any (fun w args => (s.pre enc C.prog fn [] false w args ∧ laidMetH C.prog laid w) ∧ sizedMet enc C.prog fn (OpenSpec.ofChange s) false w args)
      (s.post enc C.prog fn false true false false) := by
  refine returnsInHanded_of_calls own started noInit witness ?_
  intro w tape i _ hshape _ hok hpre hholds
  obtain ⟨_, _, _, fn', hfn', _, _, _, _, hval⟩ := hok
  have e : fn' = fn := Option.some.inj (hfn'.symm.trans hfn)
  subst e
  obtain ⟨⟨⟨ds, gs, before, hw, hc⟩, hlm⟩, hz⟩ := hpre
  have hw' := DataW.Whole.of_heap (w' := w.forCall tape i) (by rfl) hw
  refine (contract (w.forCall tape i) w.heap.size i.args ds gs before hval hw' (hM _ (w.forCall tape i).memory hshape (by rfl) hlm)).mono fun e W' ⟨v, he, hp⟩ => ?_
  subst he
  exact ChangeSpec.post_blind hp
theorem var_heap {w w' : World} (h : w.heap = w'.heap) (P : Program) (n : String) : w.var? P n = w'.var? P n := by
  unfold World.var?
  rw [h]
theorem mx_of {w : World} (h : w.ShapedOpen Tryz.prog) : ∃ m, w.cell? ⟨1, 0, none⟩ = some (.int .i64 m) :=
  Go.Proofs.cell_of_shapedOpen_int (zero := #[.int .i64 0]) (t := 3) h (of_decide_eq_true (by kernel_rfl)) (by kernel_rfl) rfl (by kernel_rfl) (by kernel_rfl) Tryz.underlying3
def MW (w : World) : Prop := ∃ m, Gl m w
theorem tabType : (Tryz.prog.globals[0]?).map (·.type) = some 283 := by kernel_rfl
theorem lastGlob : Tryz.prog.globalNamed "math/bits.deBruijn64tab" = some 7 := by kernel_rfl
theorem size_of {w : World} {n : String} {g : Nat} {cs : Array Value} (hn : Tryz.prog.globalNamed n = some g) (h : w.var? Tryz.prog n = some cs) : g < w.heap.size := by
  unfold World.var? at h
  rw [hn] at h
  simp only [Option.bind_some] at h
  rcases Nat.lt_or_ge g w.heap.size with h1 | h1
  · exact h1
  · rw [Array.getElem?_eq_none h1] at h; cases h
theorem mw_of (W w : World) (h : W.ShapedOpen Tryz.prog) (hh : w.heap = W.heap) (hl : laidMetH Tryz.prog laidR w) : MW W := by
  rw [MakeChecks.laidMetH_plain _ _ _ (by kernel_rfl)] at hl
  obtain ⟨ps, h1, _⟩ := hl
  obtain ⟨_, _, _, _, _, _, _, _, _, _, h2, _⟩ := h1
  obtain ⟨_, _, _, _, _, _, _, _, z1, _, h3, _⟩ := h2
  obtain ⟨gt, tt, ct, fuelt, pt, qt, a1, a2, a3, a4, h4, _⟩ := h3
  obtain ⟨m, hm⟩ := mx_of h
  have hz := size_of lastGlob z1
  refine ⟨m, ?_, hm, by rw [← hh]; exact hz⟩
  obtain rfl : 0 = gt := Option.some.inj (tab_glob.symm.trans a1)
  obtain rfl : 283 = tt := Option.some.inj (tabType.symm.trans a2)
  have hc := Lib.cells_of_tab (k := .u64) (zs := Lib.pow10Tab) Tryz.underlying283 Tryz.underlying238 (by kernel_rfl) (by kernel_rfl) a4
  show W.var? Tryz.prog "internal/strconv.uint64pow10" = _
  rw [← var_heap hh, a3, ← hc]
end Go.Proofs.YtihhclhpjgeniaaGreatDoor
namespace Go.Proofs.YtihhclhpjgeniaaGreatDoor
open Go.ChangeShapes Go.WideShapes Go.ChangeAt Go.RowKit
theorem jf_may : Tryz.prog.mayEnter = true := by kernel_rfl
theorem jf_lifted : (Rows.roomRunsRow.lifted == Tryz.prog.liftsFinal) = true := by kernel_rfl
theorem jf_heard : Tryz.prog.stopsHeard = true := by kernel_rfl
theorem jf_keys : (Rows.roomRunsRow.plainKeys == Tryz.prog.plainKeys) = true := by kernel_rfl
theorem jf_laid : laidOutB Tryz.prog = true := by kernel_rfl
theorem jf_rowed : mapsRowed Tryz.prog = true := by kernel_rfl
end Go.Proofs.YtihhclhpjgeniaaGreatDoor
