/- Walks: items and Parse of the reference; the law of styles. -/
import Derived.Test.YtgkgloafjhiakaaDoorT2
namespace Go.Proofs.YtgkgloafjhiakaaDoor
open Go.RowKit Go.Sort

def nxAt (w : World) (b : Nat) : Nat := match w.cell? ⟨b, 0, none⟩ with | some (.int _ n) => n.toNat | _ => 0
theorem nxAt_of {w : World} {b nx l : Nat} {wd : List UInt8} {ok : Bool} (h : ItAt w b nx l wd ok) : nxAt w b = nx := by
  unfold nxAt
  rw [show w.cell? ⟨b, 0, none⟩ = some (.int .i64 (nx : Nat)) from h.box.2 0]
  exact Int.toNat_natCast nx
theorem cut_on (l : List UInt8) (hl : l.length ≤ 1000000) (w0 : World) : ∀ w, Below w0.heap.size w0 w → Calls Tryd.prog 86 #[.string (mkB l)] w fun r w' => r = .returned (.string (mkB (cutL l))) ∧ Below w.heap.size w w' := fun w _ => (cut_any l w hl).mono fun r w' ⟨h1, h2⟩ => ⟨h1, by rw [h2]; exact Below.refl _ _⟩
/-- What items has read so far. -/
structure Sofar (s : List UInt8) (a d nx l : Nat) (wd : List UInt8) : Prop where
  lo : a ≤ nx
  hi : nx ≤ s.length
  bd : l + (s.drop nx).length * 9 ^ (8 - d) ≤ (s.drop a).length * 9 ^ (8 - d)
  spec : ∃ w, WR l w wd ∧ w.length = l ∧ pItems (s.length + 1) d (s.drop a) = thenI l w (pItems (s.length + 1) d (s.drop nx))
theorem Sofar.start (s : List UInt8) {a d : Nat} (ha : a ≤ s.length) : Sofar s a d a 0 [] := by
  refine ⟨Nat.le_refl _, ha, by omega, [], WR.nil, rfl, ?_⟩
  cases pItems (s.length + 1) d (s.drop a) <;> simp [thenI]
theorem Sofar.more {s : List UInt8} {a d nx l nx' l' : Nat} {wd w' wd' : List UInt8} (h : Sofar s a d nx l wd) (hd : d ≤ 8) (hlt : nx < s.length) (h41 : ¬ s[nx] = 41) (h1 : nx < nx') (h2 : nx' ≤ s.length)
    (ho : pOne (innI (s.length + 1) d) (s.drop nx) = some (s.drop nx', l', w')) (hw : WR l' w' wd') : Sofar s a d nx' (l + l') (cutL (wd ++ wd')) := by
  obtain ⟨w, hwr, hwl, hsp⟩ := h.spec
  obtain ⟨gl, _⟩ := one_good ho
  dsimp only at gl
  have hb := one_bound hd ho
  dsimp only at hb
  have hb2 := h.bd
  refine ⟨by have := h.lo; omega, h2, by omega, w ++ w', hwr.add hw hwl gl, by rw [List.length_append, hwl, gl], ?_⟩
  have e := drop_cons hlt
  rw [hsp, e, pItems_step h41 (by rw [← e, List.length_drop]; omega), ← e, ho]
  dsimp only
  cases pItems (s.length + 1) d (s.drop nx') with
  | none => rfl
  | some z => simp [thenI, Nat.add_assoc]
theorem Sofar.bad {s : List UInt8} {a d nx l : Nat} {wd : List UInt8} (h : Sofar s a d nx l wd) (hlt : nx < s.length) (h41 : ¬ s[nx] = 41) (ho : pOne (innI (s.length + 1) d) (s.drop nx) = none) : ItemsRes s a d (.returned (.agg ics0)) := by
  obtain ⟨w, hwr, hwl, hsp⟩ := h.spec
  have e := drop_cons hlt
  refine .inl ⟨?_, rfl⟩
  rw [hsp, e, pItems_step h41 (by rw [← e, List.length_drop]; omega), ← e, ho]
  rfl
theorem Sofar.fin {s : List UInt8} {a d nx l : Nat} {wd : List UInt8} (h : Sofar s a d nx l wd) (he : s.drop nx = [] ∨ ∃ u, s.drop nx = 41 :: u) : ItemsRes s a d (.returned (ival nx l wd true)) := by
  obtain ⟨w, hwr, hwl, hsp⟩ := h.spec
  refine .inr ⟨nx, l, w, wd, h.lo, h.hi, ?_, hwr, rfl⟩
  rw [hsp, pItems_end he]
  simp [thenI]
theorem Sofar.small {s : List UInt8} {a d nx l : Nat} {wd : List UInt8} (h : Sofar s a d nx l wd) (hs : s.length ≤ 4000) : l ≤ 172186884000 ∧ wd.length ≤ 61 :=
  ⟨bound_big h.bd (by rw [List.length_drop]; omega), by obtain ⟨w, hw, _⟩ := h.spec; exact hw.len⟩
set_option maxRecDepth 100000 in
set_option maxHeartbeats 8000000 in
theorem items_step2 {s : List UInt8} {a d : Nat} (hs : s.length ≤ 4000) (ha : a ≤ s.length) (hd : d ≤ 8) (h1 : ∀ b, a ≤ b → b < s.length → OneC s b d) : ItemsC2 s a d := by
  intro w
  have H1 := Lib.hid h1
  clear h1
  have hsz := size_mk s
  have hr0 := ItAt.new0 w
  have hb0 := belowA w (.cells ics0 66)
  have hw0 : (w.alloc (.cells ics0 66)).heap.size = w.heap.size + 1 := by simp
  go_enter Tryd.func60, Tryd.ntmps60
  go_wp2_with fail
  have ho0 : ItAt ((w.alloc (.cells ics0 66)).alloc (.cells #[.int .i64 (a : Nat), .int .i64 0, .string ⟨#[]⟩, .bool true] 66)) (w.heap.size + 1) a 0 [] true := by rw [← hw0]; exact ItAt.new _ a 0 [] true
  have hr1 := hr0.below (belowA _ (.cells #[.int .i64 (a : Nat), .int .i64 0, .string ⟨#[]⟩, .bool true] 66))
  have hb1 := below_trans' hb0 (belowA _ (.cells #[.int .i64 (a : Nat), .int .i64 0, .string ⟨#[]⟩, .bool true] 66))
  have hss := Sofar.start s (d := d) ha
  clear hr0 hb0 hw0
  generalize (w.alloc (.cells ics0 66)).alloc (.cells #[.int .i64 (a : Nat), .int .i64 0, .string ⟨#[]⟩, .bool true] 66) = w2 at ho0 hr1 hb1 ⊢
  go_loopw [8] (fun _ wr => ∃ nx l wd, Sofar s a d nx l wd ∧ ItAt wr w.heap.size 0 0 [] false ∧ ItAt wr (w.heap.size + 1) nx l wd true ∧ Below w.heap.size w wr) (fun _ wr => s.length - nxAt wr (w.heap.size + 1))
  case atStart => exact ⟨a, 0, [], hss, hr1, ho0, hb1⟩
  case round =>
    clear hss hr1 ho0 hb1
    obtain ⟨nx, l, wd, hs2, hr, ho, hb⟩ := hrel
    have HS := Lib.hid hs2
    have HR := Lib.hid hr
    have HO := Lib.hid ho
    have HB := Lib.hid hb
    have HNX := Lib.hid (nxAt_of ho)
    have hnx := hs2.hi
    have hanx := hs2.lo
    obtain ⟨hl1, hl2⟩ := hs2.small hs
    clear hs2 hr ho hb
    by_cases hlt : nx < s.length
    · have hlt2 : nx < (mkB s).size := hlt
      have hget : (mkB s)[nx] = s[nx] := rfl
      by_cases h41 : s[nx] = 41
      · have HF := Lib.hid (HS.out.fin (.inr ⟨s.drop (nx + 1), by rw [drop_cons hlt, h41]⟩))
        have XN : ((mkB s)[nx]).toNat = 41 := by rw [hget, h41]; rfl
        clear h41 hget
        have y0 : ∀ i, wr.cell? ⟨w.heap.size, i, none⟩ = ics0[i]? := HR.out.box.2
        have f0 := HR.out.fz
        have x0 := HO.out.box.2
        go_wp2_with fail
        have cF := it_cells HR.out (.int .i64 (nx : Nat)) (.int .i64 (l : Nat)) (.string (mkB wd)) (.bool true)
        exact bodyPost_ret (v := ival nx l wd true) (by simp [results, Tryd.results60, go_sem, cF]) rfl ⟨HF.out, below_set4 HB.out (Nat.le_refl _) _ _ _ _⟩
      · have HN41 := Lib.hid h41
        have C1 := Lib.hid (H1.out nx hanx hlt)
        have hx41 : (((mkB s)[nx].toNat : Int) == 41) = false := beq_false_of_ne fun e => h41 (by rw [← hget]; exact UInt8.toNat_inj.1 (by rw [show (41 : UInt8).toNat = 41 from rfl]; omega))
        have x0 := HO.out.box.2
        clear h41 hget
        go_wp2_with fail
        have C2 := C1.out wr
        with_reducible refine C2.mono ?_
        clear C2
        rintro r w3 ⟨hr, hb3⟩
        have HR3 := Lib.hid (HR.out.below hb3)
        have HO3 := Lib.hid (HO.out.below hb3)
        have HB3 := Lib.hid (HB.out.trans (hb3.mono HB.out.size))
        have hlt3 : w.heap.size + 1 < w3.heap.size := Nat.lt_of_lt_of_le HO.out.box.1 hb3.size
        clear hb3 x0
        rcases hr with ⟨hno, rfl⟩ | ⟨nx', l', w', wd', hx1, hx2, hso, hwr, rfl⟩
        · have HF := Lib.hid (HS.out.bad hlt HN41.out hno)
          have hx := ItAt.new0 w3
          have HR5 := Lib.hid (HR3.out.below (belowA w3 (.cells ics0 66)))
          have HB5 := Lib.hid (HB3.out.trans ((belowA w3 (.cells ics0 66)).mono HB3.out.size))
          have x1 : ∀ i, (w3.alloc (.cells ics0 66)).cell? ⟨w3.heap.size, i, none⟩ = ics0[i]? := hx.box.2
          have y1 : ∀ i, (w3.alloc (.cells ics0 66)).cell? ⟨w.heap.size, i, none⟩ = ics0[i]? := HR5.out.box.2
          have f1 := HR5.out.fz
          clear hx hno
          go_wp2_with fail
          have cF := it_cells HR5.out (.int .i64 0) (.int .i64 0) (.string ⟨#[]⟩) (.bool false)
          exact bodyPost_ret (v := .agg ics0) (by simp [results, Tryd.results60, go_sem, cF]) rfl ⟨HF.out, below_set4 HB5.out (Nat.le_refl _) (.int .i64 0) (.int .i64 0) (.string ⟨#[]⟩) (.bool false)⟩
        · have HM := Lib.hid (HS.out.more hd hlt HN41.out hx1 hx2 hso hwr)
          have hl3 := bound_big (one_bound hd hso) (by rw [List.length_drop]; omega)
          dsimp only at hl3
          have hl4 := hwr.len
          have hx := ItAt.new w3 nx' l' wd' true
          have HO5 := Lib.hid (HO3.out.below (belowA w3 (.cells (ics nx' l' wd' true) 66)))
          have HR5 := Lib.hid (HR3.out.below (belowA w3 (.cells (ics nx' l' wd' true) 66)))
          have HB5 := Lib.hid (HB3.out.trans ((belowA w3 (.cells (ics nx' l' wd' true) 66)).mono HB3.out.size))
          have x1 := hx.box.2
          have HX := Lib.hid hx
          clear hx hso hwr
          go_wp2_with fail
          generalize w3.alloc (.cells (ics nx' l' wd' true) 66) = w5 at HX HO5 HR5 HB5 x1 ⊢
          generalize w3.heap.size = X at HX x1 ⊢
          clear x1
          have X1 := HX.out.box.rg
          have X2 := HO5.out.box.rg
          have hap := mk_append wd wd'
          have HCT := Lib.hid (cut_on (wd ++ wd') (by rw [List.length_append]; omega) w5)
          refine wp_region_qt 14 mixed (by kernel_rfl) ?_
          simp only [List.take_succ_cons, List.take_zero, List.drop_succ_cons, List.drop_zero]
          repeat (go_big_quiet_step (first | with_reducible exact rg_call HCT.out _ _))
          refine wpQuiet_nil ?_
          intro w6 hb6
          have HO6 := Lib.hid (HO5.out.below hb6)
          have HR6 := Lib.hid (HR5.out.below hb6)
          have HB6 := Lib.hid (HB5.out.trans (hb6.mono HB5.out.size))
          have x6 := HO6.out.box.2
          have z6 := HO6.out.fz
          clear hb6 X1 X2 HCT
          have ho7 := HO6.out.set4 nx' (l + l') (cutL (wd ++ wd')) true
          have hr7 := ((((HR6.out.far (b' := w.heap.size + 1) (i := 0) (by omega) (.int .i64 (nx' : Nat))).far (b' := w.heap.size + 1) (i := 1) (by omega) (.int .i64 ((l + l' : Nat) : Int))).far (b' := w.heap.size + 1) (i := 2) (by omega) (.string (mkB (cutL (wd ++ wd'))))).far (b' := w.heap.size + 1) (i := 3) (by omega) (.bool true))
          have hb7 : Below w.heap.size w ((((w6.setCell ⟨w.heap.size + 1, 0, none⟩ (.int .i64 (nx' : Nat))).setCell ⟨w.heap.size + 1, 1, none⟩ (.int .i64 ((l + l' : Nat) : Int))).setCell ⟨w.heap.size + 1, 2, none⟩ (.string (mkB (cutL (wd ++ wd'))))).setCell ⟨w.heap.size + 1, 3, none⟩ (.bool true)) := below_set4 HB6.out (Nat.le_succ w.heap.size) (.int .i64 (nx' : Nat)) (.int .i64 ((l + l' : Nat) : Int)) (.string (mkB (cutL (wd ++ wd')))) (.bool true)
          rw [Int.natCast_add] at ho7 hr7 hb7
          have HO7 := Lib.hid ho7
          have HR7 := Lib.hid hr7
          have HB7 := Lib.hid hb7
          clear ho7 hr7 hb7
          generalize cutL (wd ++ wd') = ct at HO7 HR7 HB7 HM ⊢
          go_wp2_with fail
          exact ⟨⟨nx', l + l', ct, HM.out, HR7.out, HO7.out, HB7.out⟩, by rw [nxAt_of HO7.out, HNX.out]; omega⟩
    · have HF := Lib.hid (HS.out.fin (.inl (List.drop_of_length_le (by omega))))
      have y0 : ∀ i, wr.cell? ⟨w.heap.size, i, none⟩ = ics0[i]? := HR.out.box.2
      have f0 := HR.out.fz
      have x0 := HO.out.box.2
      go_wp2_with fail
      have cF := it_cells HR.out (.int .i64 (nx : Nat)) (.int .i64 (l : Nat)) (.string (mkB wd)) (.bool true)
      exact bodyPost_ret (v := ival nx l wd true) (by simp [results, Tryd.results60, go_sem, cF]) rfl ⟨HF.out, below_set4 HB.out (Nat.le_refl _) _ _ _ _⟩
/-- Both, of all places. -/
theorem both_all {s : List UInt8} (hs : s.length ≤ 4000) : ∀ m, (∀ a d, s.length - a ≤ m → a < s.length → d ≤ 8 → OneC s a d) ∧ (∀ a d, s.length - a ≤ m → a ≤ s.length → d ≤ 8 → ItemsC2 s a d)
  | 0 => ⟨fun a d h h2 _ => absurd h (by omega), fun a d h h2 hd => items_step2 hs h2 hd fun b h3 h4 => absurd h4 (by omega)⟩
  | m + 1 => by
    obtain ⟨i1, i2⟩ := both_all hs m
    have o : ∀ a d, s.length - a ≤ m + 1 → a < s.length → d ≤ 8 → OneC s a d := fun a d h h2 hd =>
      one_step hs h2 hd (fun h3 => i1 (a + 1) d (by omega) h3 hd) (fun h3 => i2 (a + 1) (d + 1) (by omega) (by omega) (by omega))
    exact ⟨o, fun a d h h2 hd => items_step2 hs h2 hd fun b h3 h4 => o b d (by omega) h4 hd⟩
theorem refItems_any {s : List UInt8} (hs : s.length ≤ 4000) : ItemsC2 s 0 0 := (both_all hs s.length).2 0 0 (by omega) (Nat.zero_le _) (by omega)
set_option maxRecDepth 100000 in
set_option maxHeartbeats 8000000 in
theorem refParse_any (s : List UInt8) (w : World) (hs : s.length ≤ 1000000) :
    Calls Tryd.prog 22 #[.string (mkB s)] w fun r w' => r = .returned (.tuple #[.string (mkB (pStyle s).1), .int .i64 (pStyle s).2]) ∧ Below w.heap.size w w' := by
  have hsz : (mkB s).size = s.length := size_mk s
  go_enter Tryd.func22, Tryd.ntmps22
  by_cases h4 : 4000 < s.length
  · have HE : Hid (pStyle s = ([], 4)) := Lib.hid (by unfold pStyle; rw [if_pos h4])
    go_wp2_with fail
    go_ret2
    exact ⟨by rw [HE.out]; rfl, Below.refl _ _⟩
  · have IC : Calls Tryd.prog 60 #[.string (mkB s), .int .i64 0, .int .i64 0] w fun r w' => ItemsRes s 0 0 r ∧ Below w.heap.size w w' := refItems_any (s := s) (by omega) w
    go_wp2_with fail
    with_reducible refine IC.mono ?_
    clear IC
    rintro r w3 ⟨hr, hb3⟩
    have HB3 := Lib.hid hb3
    clear hb3
    rcases hr with ⟨hno, rfl⟩ | ⟨nx, l, wv, wd, _, hxs, hso, hwr, rfl⟩
    · rw [List.drop_zero] at hno
      have HE : Hid (pStyle s = ([], 3)) := Lib.hid (by unfold pStyle; rw [if_neg h4, hno])
      have x0 : ∀ i, (w3.alloc (.cells ics0 66)).cell? ⟨w3.heap.size, i, none⟩ = ics0[i]? := (ItAt.new0 w3).box.2
      have HB4 := Lib.hid (below_trans' HB3.out (belowA w3 (.cells ics0 66)))
      clear hno
      go_wp2_with fail
      go_ret2
      exact ⟨by rw [HE.out]; rfl, HB4.out⟩
    · rw [List.drop_zero] at hso
      have hbd := bound_big (pItems_bound _ _ _ _ hso (Nat.zero_le 8)) (by omega)
      dsimp only at hbd
      have x0 := (ItAt.new w3 nx l wd true).box.2
      have HB4 := Lib.hid (below_trans' HB3.out (belowA w3 (.cells (ics nx l wd true) 66)))
      have HWR := Lib.hid hwr
      by_cases hnx : nx < s.length
      · have HE : Hid (pStyle s = ([], 3)) := Lib.hid (by
          unfold pStyle
          rw [if_neg h4, hso, drop_cons hnx])
        clear hso hwr
        go_wp2_with fail
        go_ret2
        exact ⟨by rw [HE.out]; rfl, HB4.out⟩
      · have hd0 : s.drop nx = [] := List.drop_of_length_le (by omega)
        rw [hd0] at hso
        by_cases h60 : 60 < l
        · have HE : Hid (pStyle s = ([], 4)) := Lib.hid (by unfold pStyle; rw [if_neg h4, hso]; exact if_pos h60)
          clear hso hwr hd0
          go_wp2_with fail
          go_ret2
          exact ⟨by rw [HE.out]; rfl, HB4.out⟩
        · have HE : Hid (pStyle s = (wv, 0)) := Lib.hid (by unfold pStyle; rw [if_neg h4, hso]; exact if_neg h60)
          have HWD := Lib.hid (hwr.eq (by omega))
          clear hso hwr hd0
          go_wp2_with fail
          go_ret2
          exact ⟨by rw [HE.out, HWD.out]; rfl, HB4.out⟩
set_option maxRecDepth 100000 in
theorem styles_any (t : ByteArray) (w : World) (hm : MX w) : Calls Tryd.prog 4 #[.string t] w fun r w' => r = .returned (.bool true) ∧ Below w.heap.size w w' := by
  have HM := Lib.hid hm
  have HP := Lib.hid hm.lt
  clear hm
  go_enter Tryd.func4, Tryd.ntmps4
  by_cases h1 : 5000 < t.size
  · go_wp2_with fail
    with_reducible refine (known_any _ HM.out).mono ?_
    rintro _ wk ⟨rfl, hbk⟩
    have HBK := Lib.hid (hbk)
    clear hbk
    go_wp2_with fail
    go_ret
    exact ⟨rfl, HBK.out⟩
  obtain ⟨s, rfl⟩ : ∃ s, t = mkB s := ⟨liB t, (mk_li t).symm⟩
  have hsz := size_mk s
  have hl : s.length ≤ 1000000 := by omega
  have HL := Lib.hid hl
  go_wp2_with fail
  with_reducible refine (parseE_any s _ hl).mono ?_
  rintro _ w2 ⟨rfl, hb2⟩
  have HB2 := Lib.hid hb2
  clear hb2 hl h1
  generalize hp : pStyle s = P
  have HPS := Lib.hid hp
  clear hp
  go_wp2_with fail
  with_reducible refine (refParse_any s _ HL.out).mono ?_
  rintro _ w3 ⟨rfl, hb3⟩
  rw [HPS.out]
  have HB3 := Lib.hid (below_trans' HB2.out hb3)
  clear hb3
  go_wp2_with fail
  with_reducible refine (known_any _ (HM.out.below HP.out HB3.out)).mono ?_
  rintro _ wk ⟨rfl, hbk⟩
  have HBK := Lib.hid (below_trans' HB3.out hbk)
  clear hbk
  go_wp2_with fail
  go_ret
  exact ⟨rfl, HBK.out⟩
end Go.Proofs.YtgkgloafjhiakaaDoor
