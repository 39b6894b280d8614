/- Walks: an item, as the reference reads it. -/
import Derived.Test.YtgkgloafjhiakaaDoorT1
import Derived.Test.YtgkgloafjhiakaaDoorR1
import Derived.Test.YtgkgloafjhiakaaDoorQt
import Derived.Test.YtgkgloafjhiakaaDoorM2
import Derived.Laws.BitsLemmas
namespace Go.Proofs.YtgkgloafjhiakaaDoor
open Go.RowKit Go.Sort

abbrev ival (nx l : Nat) (wd : List UInt8) (ok : Bool) : Value := .agg #[.int .i64 (nx : Nat), .int .i64 (l : Nat), .string (mkB wd), .bool ok]
abbrev ics (nx l : Nat) (wd : List UInt8) (ok : Bool) : Array Value := #[.int .i64 (nx : Nat), .int .i64 (l : Nat), .string (mkB wd), .bool ok]
abbrev ics0 : Array Value := #[.int .i64 0, .int .i64 0, .string ⟨#[]⟩, .bool false]
/-- An item in memory. -/
structure ItAt (w : World) (b nx l : Nat) (wd : List UInt8) (ok : Bool) : Prop where
  box : Box w b (ics nx l wd ok)
  fz : ∀ i, w.frozen? ⟨b, i, none⟩ = false
theorem ItAt.new (w : World) (nx l : Nat) (wd : List UInt8) (ok : Bool) : ItAt (w.alloc (.cells (ics nx l wd ok) 66)) w.heap.size nx l wd ok := ⟨Box.new _ _ _, fz_new _ _ _⟩
theorem ItAt.new0 (w : World) : ItAt (w.alloc (.cells ics0 66)) w.heap.size 0 0 [] false := ItAt.new w 0 0 [] false
theorem ItAt.below {w w' : World} {b nx l : Nat} {wd : List UInt8} {ok : Bool} (h : ItAt w b nx l wd ok) (hb : Below w.heap.size w w') : ItAt w' b nx l wd ok := ⟨h.box.below hb, fz_below h.box.1 h.fz hb⟩
theorem ItAt.drewN {w : World} {b nx l : Nat} {wd : List UInt8} {ok : Bool} (h : ItAt w b nx l wd ok) (n : Nat) : ItAt (w.drewN n) b nx l wd ok := ⟨h.box, h.fz⟩
theorem ItAt.far {w : World} {b nx l : Nat} {wd : List UInt8} {ok : Bool} (h : ItAt w b nx l wd ok) {b' i : Nat} (hne : b ≠ b') (v : Value) : ItAt (w.setCell ⟨b', i, none⟩ v) b nx l wd ok :=
  ⟨h.box.far (p := ⟨b', i, none⟩) hne v, fun i => by rw [World.frozen?_setCell]; exact h.fz i⟩
theorem ItAt.setN {w : World} {b nx l : Nat} {wd : List UInt8} {ok : Bool} (h : ItAt w b nx l wd ok) (n : Nat) : ItAt (w.setCell ⟨b, 0, none⟩ (.int .i64 (n : Nat))) b n l wd ok := ⟨h.box.set (i := 0) (by simp) _, fun i => by rw [World.frozen?_setCell]; exact h.fz i⟩
theorem ItAt.setL {w : World} {b nx l : Nat} {wd : List UInt8} {ok : Bool} (h : ItAt w b nx l wd ok) (n : Nat) : ItAt (w.setCell ⟨b, 1, none⟩ (.int .i64 (n : Nat))) b nx n wd ok := ⟨h.box.set (i := 1) (by simp) _, fun i => by rw [World.frozen?_setCell]; exact h.fz i⟩
theorem ItAt.setW {w : World} {b nx l : Nat} {wd : List UInt8} {ok : Bool} (h : ItAt w b nx l wd ok) (v : List UInt8) : ItAt (w.setCell ⟨b, 2, none⟩ (.string (mkB v))) b nx l v ok := ⟨h.box.set (i := 2) (by simp) _, fun i => by rw [World.frozen?_setCell]; exact h.fz i⟩
theorem ItAt.setO {w : World} {b nx l : Nat} {wd : List UInt8} {ok : Bool} (h : ItAt w b nx l wd ok) (o : Bool) : ItAt (w.setCell ⟨b, 3, none⟩ (.bool o)) b nx l wd o := ⟨h.box.set (i := 3) (by simp) _, fun i => by rw [World.frozen?_setCell]; exact h.fz i⟩
theorem ItAt.set4 {w : World} {b nx l : Nat} {wd : List UInt8} {ok : Bool} (h : ItAt w b nx l wd ok) (nx' l' : Nat) (wd' : List UInt8) (ok' : Bool) :
    ItAt ((((w.setCell ⟨b, 0, none⟩ (.int .i64 (nx' : Nat))).setCell ⟨b, 1, none⟩ (.int .i64 (l' : Nat))).setCell ⟨b, 2, none⟩ (.string (mkB wd'))).setCell ⟨b, 3, none⟩ (.bool ok')) b nx' l' wd' ok' := (((h.setN nx').setL l').setW wd').setO ok'
theorem cut_any (l : List UInt8) (w : World) (hl : l.length ≤ 1000000) : Calls Tryd.prog 86 #[.string (mkB l)] w fun r w' => r = .returned (.string (mkB (cutL l))) ∧ w' = w := by
  have hs := size_mk l
  by_cases h : 61 < l.length
  · have he : (mkB l).extract 0 61 = mkB (cutL l) := by
      apply ByteArray.ext
      simp [cutL, ByteArray.data_extract]
    generalize cutL l = c at he ⊢
    go_enter Tryd.func86, Tryd.ntmps86
    go_wp2_with fail
    go_ret
    exact ⟨rfl, rfl⟩
  · have he : cutL l = l := List.take_of_length_le (by omega)
    rw [he]
    clear he
    go_enter Tryd.func86, Tryd.ntmps86
    go_wp2_with fail
    go_ret
    exact ⟨rfl, rfl⟩
/-- What one answers at a place. -/
def OneRes (s : List UInt8) (a d : Nat) (r : Ending) : Prop :=
  (pOne (innI (s.length + 1) d) (s.drop a) = none ∧ r = .returned (ival 0 0 [] false)) ∨
  ∃ nx l w wd, a < nx ∧ nx ≤ s.length ∧ pOne (innI (s.length + 1) d) (s.drop a) = some (s.drop nx, l, w) ∧ WR l w wd ∧ r = .returned (ival nx l wd true)
def ItemsRes (s : List UInt8) (a d : Nat) (r : Ending) : Prop :=
  (pItems (s.length + 1) d (s.drop a) = none ∧ r = .returned (ival 0 0 [] false)) ∨
  ∃ nx l w wd, a ≤ nx ∧ nx ≤ s.length ∧ pItems (s.length + 1) d (s.drop a) = some (s.drop nx, l, w) ∧ WR l w wd ∧ r = .returned (ival nx l wd true)
def OneC (s : List UInt8) (a d : Nat) : Prop := ∀ w, Calls Tryd.prog 85 #[.string (mkB s), .int .i64 (a : Int), .int .i64 (d : Int)] w fun r w' => OneRes s a d r ∧ Below w.heap.size w w'
def ItemsC2 (s : List UInt8) (a d : Nat) : Prop := ∀ w, Calls Tryd.prog 60 #[.string (mkB s), .int .i64 (a : Int), .int .i64 (d : Int)] w fun r w' => ItemsRes s a d r ∧ Below w.heap.size w w'
theorem result85 {w' : World} {b nx l : Nat} {wd : List UInt8} {ok : Bool} (h : ItAt w' b nx l wd ok) : ∀ i, w'.cell? ⟨b, i, none⟩ = (ics nx l wd ok)[i]? := h.box.2
theorem it_cells {w : World} {b nx l : Nat} {wd : List UInt8} {ok : Bool} (h : ItAt w b nx l wd ok) (v0 v1 v2 v3 : Value) :
    ∀ i, ((((w.setCell ⟨b, 0, none⟩ v0).setCell ⟨b, 1, none⟩ v1).setCell ⟨b, 2, none⟩ v2).setCell ⟨b, 3, none⟩ v3).cell? ⟨b, i, none⟩ = #[v0, v1, v2, v3][i]? :=
  ((((h.box.set (i := 0) (by simp) v0).set (i := 1) (by simp) v1).set (i := 2) (by simp) v2).set (i := 3) (by simp) v3).2
theorem sign_res {s : List UInt8} {a d : Nat} {c : UInt8} (hc : isSign c = true) (hD : s.drop a = c :: s.drop (a + 1)) {r : Ending} (h : OneRes s (a + 1) d r) :
    ∃ nx l wd ok, r = .returned (ival nx l wd ok) ∧ wordL wd ∧ wd.length ≤ 61 ∧ OneRes s a d (.returned (ival nx l (signW c wd) ok)) := by
  have e := pOne_more (inner := innI (s.length + 1) d) (u := s.drop (a + 1)) hc
  rw [← hD] at e
  rcases h with ⟨h1, h2⟩ | ⟨nx, l, w, wd, h1, h2, h3, h4, h5⟩
  · refine ⟨0, 0, [], false, h2, fun c hc => absurd hc (by simp), by decide, .inl ⟨by rw [e, h1]; rfl, ?_⟩⟩
    have : signW c [] = [] := List.length_eq_zero_iff.1 (by rw [signW_length]; rfl)
    rw [this]
  · exact ⟨nx, l, wd, true, h5, h4.word, h4.len, .inr ⟨nx, l, signW c w, signW c wd, by omega, h2, by rw [e, h3]; rfl, h4.sign c, rfl⟩⟩
theorem no_res {s : List UInt8} {a d : Nat} (h : pOne (innI (s.length + 1) d) (s.drop a) = none) : OneRes s a d (.returned (.agg ics0)) := .inl ⟨h, rfl⟩
set_option maxRecDepth 100000 in
set_option maxHeartbeats 8000000 in
theorem one_step {s : List UInt8} {a d : Nat} (hs : s.length ≤ 4000) (ha : a < s.length) (hd : d ≤ 8) (h1 : a + 1 < s.length → OneC s (a + 1) d) (h2 : d < 8 → ItemsC2 s (a + 1) (d + 1)) : OneC s a d := by
  intro w
  have H1 := Lib.hid h1
  have H2 := Lib.hid h2
  clear h1 h2
  have hsz := size_mk s
  have ha2 : a < (mkB s).size := ha
  have hr0 := ItAt.new0 w
  have hb0 := belowA w (.cells ics0 66)
  have hget : (mkB s)[a] = s[a] := rfl
  have hdr := drop_cons ha
  have hs1 := slice1 ha2
  rw [hget] at hs1
  generalize hc : s[a] = c at hget hdr hs1
  clear hc
  have HD := Lib.hid hdr
  clear hdr
  go_enter Tryd.func85, Tryd.ntmps85
  go_wp2_with fail
  generalize w.alloc (.cells ics0 66) = w1 at hr0 hb0 ⊢
  with_reducible refine (isLetter_any c _).mono ?_
  rintro _ w2 ⟨rfl, rfl⟩
  have HR3 := Lib.hid hr0
  have HB3 := Lib.hid hb0
  clear hr0 hb0
  have y0 : ∀ i, w2.cell? ⟨w.heap.size, i, none⟩ = ics0[i]? := HR3.out.box.2
  have f0 := HR3.out.fz
  by_cases hL : isL c
  · have HO := Lib.hid (one_letter (inner := innI (s.length + 1) d) (s.drop (a + 1)) hL)
    rw [← HD.out] at HO
    have HW := Lib.hid (WR.one hL)
    rw [decide_eq_true hL]
    clear hL
    go_wp2_with fail
    have cF := it_cells HR3.out (.int .i64 ((a : Int) + 1)) (.int .i64 1) (.string (mkB [c])) (.bool true)
    refine bodyPost_ret (v := .agg #[.int .i64 ((a : Int) + 1), .int .i64 1, .string (mkB [c]), .bool true]) (by simp [results, Tryd.results85, go_sem, cF]) rfl ⟨.inr ⟨a + 1, 1, [c], [c], by omega, by omega, HO.out, HW.out, rfl⟩, below_set4 HB3.out (Nat.le_refl _) (.int .i64 ((a : Int) + 1)) (.int .i64 1) (.string (mkB [c])) (.bool true)⟩
  rw [decide_eq_false hL]
  by_cases hS : c = 33 ∨ c = 126 ∨ c = 37
  · have hsg : isSign c = true := by rcases hS with rfl | rfl | rfl <;> decide
    have HSG := Lib.hid hsg
    clear hL
    by_cases he : a + 1 = s.length
    · have HNO := Lib.hid (one_sign_none (inner := innI (s.length + 1) d) (u := s.drop (a + 1)) hsg (.inl (List.drop_of_length_le (by omega))))
      rw [← HD.out] at HNO
      have e1 : ((a : Int) + 1 == (s.length : Int)) = true := beq_iff_eq.2 (by omega)
      clear hsg
      rcases hS with rfl | rfl | rfl
      all_goals
        go_wp2_with fail
        have cF := it_cells HR3.out (.int .i64 0) (.int .i64 0) (.string ⟨#[]⟩) (.bool false)
        exact bodyPost_ret (v := .agg ics0) (by simp [results, Tryd.results85, go_sem, cF]) rfl ⟨no_res HNO.out, below_set4 HB3.out (Nat.le_refl _) (.int .i64 0) (.int .i64 0) (.string ⟨#[]⟩) (.bool false)⟩
    · have e1 : ((a : Int) + 1 == (s.length : Int)) = false := beq_false_of_ne (by omega)
      have ha3 : a + 1 < s.length := by omega
      have ha4 : a + 1 < (mkB s).size := ha3
      have hget2 : (mkB s)[a + 1] = s[a + 1] := rfl
      have hdr2 := drop_cons ha3
      generalize s[a + 1] = c2 at hget2 hdr2
      have HD2 := Lib.hid hdr2
      clear hdr2 he
      by_cases h41 : c2 = 41
      · subst h41
        have HNO := Lib.hid (one_sign_none (inner := innI (s.length + 1) d) (u := s.drop (a + 1)) hsg (.inr ⟨_, HD2.out⟩))
        rw [← HD.out] at HNO
        clear hsg
        rcases hS with rfl | rfl | rfl
        all_goals
          go_wp2_with fail
          have cF := it_cells HR3.out (.int .i64 0) (.int .i64 0) (.string ⟨#[]⟩) (.bool false)
          exact bodyPost_ret (v := .agg ics0) (by simp [results, Tryd.results85, go_sem, cF]) rfl ⟨no_res HNO.out, below_set4 HB3.out (Nat.le_refl _) (.int .i64 0) (.int .i64 0) (.string ⟨#[]⟩) (.bool false)⟩
      · have h41b : ((c2.toNat : Int) == 41) = false := beq_false_of_ne fun e => h41 (UInt8.toNat_inj.1 (by rw [show (41 : UInt8).toNat = 41 from rfl]; omega))
        have C1 : Calls Tryd.prog 85 #[.string (mkB s), .int .i64 ((a : Int) + 1), .int .i64 (d : Int)] w2 fun r w' => OneRes s (a + 1) d r ∧ Below w2.heap.size w2 w' := H1.out ha3 w2
        clear hsg h41
        rcases hS with rfl | rfl | rfl
        · go_wp2_with fail
          with_reducible refine C1.mono ?_
          clear C1
          rintro r w3 ⟨hr, hb3⟩
          obtain ⟨nx, l, wd, ok, rfl, hw, hl61, hres⟩ := sign_res HSG.out HD.out hr
          have HRES := Lib.hid hres
          have HW := Lib.hid hw
          have HR4 := Lib.hid (HR3.out.below hb3)
          have HB4 := Lib.hid (HB3.out.trans (hb3.mono HB3.out.size))
          have hlt : w.heap.size < w3.heap.size := Nat.lt_of_lt_of_le HR3.out.box.1 hb3.size
          have HNE := Lib.hid (show w3.heap.size ≠ w.heap.size by omega)
          have HLE := Lib.hid (show w.heap.size ≤ w3.heap.size by omega)
          clear hr hres hw hb3 hlt
          have hx := ItAt.new w3 nx l wd ok
          have hr5 := HR4.out.below (belowA w3 (.cells (ics nx l wd ok) 66))
          have hb5 := HB4.out.trans ((belowA w3 (.cells (ics nx l wd ok) 66)).mono HB4.out.size)
          have x0 := hx.box.2
          go_wp2_with fail
          generalize w3.alloc (.cells (ics nx l wd ok) 66) = w5 at hx hr5 hb5 x0 ⊢
          generalize w3.heap.size = X at hx HNE HLE x0 ⊢
          clear x0
          with_reducible refine (swapped_any (mkB wd) _ (by rw [size_mk]; omega) HW.out).mono ?_
          rintro _ w6 ⟨rfl, hb6⟩
          have HX := Lib.hid (hx.below hb6)
          have HR6 := Lib.hid (hr5.below hb6)
          have HB6 := Lib.hid (hb5.trans (hb6.mono hb5.size))
          clear hx hr5 hb5 hb6
          go_wp2_with fail
          with_reducible refine (backward_any (mkB (miL wd)) _ (by rw [size_mk]; simp only [miL, List.length_map]; omega)).mono ?_
          rintro _ w7 ⟨rfl, rfl⟩
          rw [show (liB (mkB (miL wd))).reverse = signW 33 wd from rfl]
          generalize signW 33 wd = v at HRES ⊢
          have x1 := HX.out.box.2
          have z1 := HX.out.fz
          have HX2 := Lib.hid (HX.out.setW v)
          have HR7 := Lib.hid (HR6.out.far (b' := X) (i := 2) HNE.out.symm (.string (mkB v)))
          have HB7 := Lib.hid (below_set HB6.out (p := ⟨X, 2, none⟩) HLE.out (.string (mkB v)))
          have x2 := HX2.out.box.2
          have y2 := HR7.out.box.2
          have f2 := HR7.out.fz
          clear HX HR6 HB6
          go_wp2_with fail
          have cF := it_cells HR7.out (.int .i64 (nx : Nat)) (.int .i64 (l : Nat)) (.string (mkB v)) (.bool ok)
          exact bodyPost_ret (v := ival nx l v ok) (by simp [results, Tryd.results85, go_sem, cF]) rfl ⟨HRES.out, below_set4 HB7.out (Nat.le_refl _) _ _ _ _⟩
        · go_wp2_with fail
          with_reducible refine C1.mono ?_
          clear C1
          rintro r w3 ⟨hr, hb3⟩
          obtain ⟨nx, l, wd, ok, rfl, hw, hl61, hres⟩ := sign_res HSG.out HD.out hr
          have HRES := Lib.hid hres
          have HW := Lib.hid hw
          have HR4 := Lib.hid (HR3.out.below hb3)
          have HB4 := Lib.hid (HB3.out.trans (hb3.mono HB3.out.size))
          have hlt : w.heap.size < w3.heap.size := Nat.lt_of_lt_of_le HR3.out.box.1 hb3.size
          have HNE := Lib.hid (show w3.heap.size ≠ w.heap.size by omega)
          have HLE := Lib.hid (show w.heap.size ≤ w3.heap.size by omega)
          clear hr hres hw hb3 hlt
          have hx := ItAt.new w3 nx l wd ok
          have hr5 := HR4.out.below (belowA w3 (.cells (ics nx l wd ok) 66))
          have hb5 := HB4.out.trans ((belowA w3 (.cells (ics nx l wd ok) 66)).mono HB4.out.size)
          have x0 := hx.box.2
          go_wp2_with fail
          generalize w3.alloc (.cells (ics nx l wd ok) 66) = w5 at hx hr5 hb5 x0 ⊢
          generalize w3.heap.size = X at hx HNE HLE x0 ⊢
          clear x0
          with_reducible refine (swapped_any (mkB wd) _ (by rw [size_mk]; omega) HW.out).mono ?_
          rintro _ w7 ⟨rfl, hb6⟩
          have HX := Lib.hid (hx.below hb6)
          have HR6 := Lib.hid (hr5.below hb6)
          have HB6 := Lib.hid (hb5.trans (hb6.mono hb5.size))
          clear hx hr5 hb5 hb6
          rw [show miL (liB (mkB wd)) = signW 126 wd from rfl]
          generalize signW 126 wd = v at HRES ⊢
          have x1 := HX.out.box.2
          have z1 := HX.out.fz
          have HX2 := Lib.hid (HX.out.setW v)
          have HR7 := Lib.hid (HR6.out.far (b' := X) (i := 2) HNE.out.symm (.string (mkB v)))
          have HB7 := Lib.hid (below_set HB6.out (p := ⟨X, 2, none⟩) HLE.out (.string (mkB v)))
          have x2 := HX2.out.box.2
          have y2 := HR7.out.box.2
          have f2 := HR7.out.fz
          clear HX HR6 HB6
          go_wp2_with fail
          have cF := it_cells HR7.out (.int .i64 (nx : Nat)) (.int .i64 (l : Nat)) (.string (mkB v)) (.bool ok)
          exact bodyPost_ret (v := ival nx l v ok) (by simp [results, Tryd.results85, go_sem, cF]) rfl ⟨HRES.out, below_set4 HB7.out (Nat.le_refl _) _ _ _ _⟩
        · go_wp2_with fail
          with_reducible refine C1.mono ?_
          clear C1
          rintro r w3 ⟨hr, hb3⟩
          obtain ⟨nx, l, wd, ok, rfl, hw, hl61, hres⟩ := sign_res HSG.out HD.out hr
          have HRES := Lib.hid hres
          have HW := Lib.hid hw
          have HR4 := Lib.hid (HR3.out.below hb3)
          have HB4 := Lib.hid (HB3.out.trans (hb3.mono HB3.out.size))
          have hlt : w.heap.size < w3.heap.size := Nat.lt_of_lt_of_le HR3.out.box.1 hb3.size
          have HNE := Lib.hid (show w3.heap.size ≠ w.heap.size by omega)
          have HLE := Lib.hid (show w.heap.size ≤ w3.heap.size by omega)
          clear hr hres hw hb3 hlt
          have hx := ItAt.new w3 nx l wd ok
          have hr5 := HR4.out.below (belowA w3 (.cells (ics nx l wd ok) 66))
          have hb5 := HB4.out.trans ((belowA w3 (.cells (ics nx l wd ok) 66)).mono HB4.out.size)
          have x0 := hx.box.2
          go_wp2_with fail
          generalize w3.alloc (.cells (ics nx l wd ok) 66) = w5 at hx hr5 hb5 x0 ⊢
          generalize w3.heap.size = X at hx HNE HLE x0 ⊢
          clear x0
          with_reducible refine (refFlipped_any (mkB wd) _ (by rw [size_mk]; omega) HW.out).mono ?_
          rintro _ w7 ⟨rfl, hb6⟩
          have HX := Lib.hid (hx.below hb6)
          have HR6 := Lib.hid (hr5.below hb6)
          have HB6 := Lib.hid (hb5.trans (hb6.mono hb5.size))
          clear hx hr5 hb5 hb6
          rw [show flL (liB (mkB wd)) = signW 37 wd from rfl]
          generalize signW 37 wd = v at HRES ⊢
          have x1 := HX.out.box.2
          have z1 := HX.out.fz
          have HX2 := Lib.hid (HX.out.setW v)
          have HR7 := Lib.hid (HR6.out.far (b' := X) (i := 2) HNE.out.symm (.string (mkB v)))
          have HB7 := Lib.hid (below_set HB6.out (p := ⟨X, 2, none⟩) HLE.out (.string (mkB v)))
          have x2 := HX2.out.box.2
          have y2 := HR7.out.box.2
          have f2 := HR7.out.fz
          clear HX HR6 HB6
          go_wp2_with fail
          have cF := it_cells HR7.out (.int .i64 (nx : Nat)) (.int .i64 (l : Nat)) (.string (mkB v)) (.bool ok)
          exact bodyPost_ret (v := ival nx l v ok) (by simp [results, Tryd.results85, go_sem, cF]) rfl ⟨HRES.out, below_set4 HB7.out (Nat.le_refl _) _ _ _ _⟩
  have c33 : ((c.toNat : Int) == 33) = false := beq_false_of_ne fun e => hS (.inl (UInt8.toNat_inj.1 (by rw [show (33 : UInt8).toNat = 33 from rfl]; omega)))
  have c126 : ((c.toNat : Int) == 126) = false := beq_false_of_ne fun e => hS (.inr (.inl (UInt8.toNat_inj.1 (by rw [show (126 : UInt8).toNat = 126 from rfl]; omega))))
  have c37 : ((c.toNat : Int) == 37) = false := beq_false_of_ne fun e => hS (.inr (.inr (UInt8.toNat_inj.1 (by rw [show (37 : UInt8).toNat = 37 from rfl]; omega))))
  have hns : isSign c = false := by
    unfold isSign
    simp only [Bool.or_eq_false_iff, beq_eq_false_iff_ne]
    exact ⟨⟨fun e => hS (.inl e), fun e => hS (.inr (.inl e))⟩, fun e => hS (.inr (.inr e))⟩
  clear hS
  by_cases h40 : c = 40
  · by_cases h8 : d < 8
    · subst h40
      have HNS := Lib.hid hns
      have HLL := Lib.hid hL
      have C1 : Calls Tryd.prog 60 #[.string (mkB s), .int .i64 ((a : Int) + 1), .int .i64 ((d : Int) + 1)] w2 fun r w' => ItemsRes s (a + 1) (d + 1) r ∧ Below w2.heap.size w2 w' := H2.out h8 w2
      have HD8 := Lib.hid h8
      have e8 : ((d : Int) == 8) = false := beq_false_of_ne (by omega)
      clear hns hL h8
      go_wp2_with fail
      with_reducible refine C1.mono ?_
      clear C1
      rintro r w3 ⟨hr, hb3⟩
      have HR4 := Lib.hid (HR3.out.below hb3)
      have HB4 := Lib.hid (HB3.out.trans (hb3.mono HB3.out.size))
      have hlt : w.heap.size < w3.heap.size := Nat.lt_of_lt_of_le HR3.out.box.1 hb3.size
      have HNE := Lib.hid (show w3.heap.size ≠ w.heap.size by omega)
      have HLE := Lib.hid (show w.heap.size ≤ w3.heap.size by omega)
      clear hb3 hlt y0 f0
      rcases hr with ⟨hno, rfl⟩ | ⟨nx, l, wv, wd, hax, hxs, hso, hwr, rfl⟩
      · have HNO := Lib.hid (one_no (inner := innI (s.length + 1) d) (s.drop (a + 1)) HNS.out HLL.out (fun _ v l w => by unfold innI; rw [if_pos HD8.out, hno]; simp))
        rw [← HD.out] at HNO
        have hx := ItAt.new w3 0 0 [] false
        have hr5 := HR4.out.below (belowA w3 (.cells ics0 66))
        have hb5 := HB4.out.trans ((belowA w3 (.cells ics0 66)).mono HB4.out.size)
        have x0 : ∀ i, (w3.alloc (.cells ics0 66)).cell? ⟨w3.heap.size, i, none⟩ = ics0[i]? := hx.box.2
        have y5 : ∀ i, (w3.alloc (.cells ics0 66)).cell? ⟨w.heap.size, i, none⟩ = ics0[i]? := hr5.box.2
        have f5 := hr5.fz
        have HR5 := Lib.hid hr5
        have HB5 := Lib.hid hb5
        clear hno hx hr5 hb5
        go_wp2_with fail
        have cF := it_cells HR5.out (.int .i64 0) (.int .i64 0) (.string ⟨#[]⟩) (.bool false)
        exact bodyPost_ret (v := .agg ics0) (by simp [results, Tryd.results85, go_sem, cF]) rfl ⟨no_res HNO.out, below_set4 HB5.out (Nat.le_refl _) (.int .i64 0) (.int .i64 0) (.string ⟨#[]⟩) (.bool false)⟩
      · obtain ⟨⟨glen, gw⟩, gend⟩ := pItems_good _ _ _ _ hso
        dsimp only at glen gw gend
        have hbd := bound_big (pItems_bound _ _ _ _ hso HD8.out) (by rw [List.length_drop]; omega)
        dsimp only at hbd
        have hx := ItAt.new w3 nx l wd true
        have hr5 := HR4.out.below (belowA w3 (.cells (ics nx l wd true) 66))
        have hb5 := HB4.out.trans ((belowA w3 (.cells (ics nx l wd true) 66)).mono HB4.out.size)
        by_cases hnx : nx = s.length
        · have hrest : s.drop nx = [] := List.drop_of_length_le (by omega)
          have HNO := Lib.hid (one_no (inner := innI (s.length + 1) d) (s.drop (a + 1)) HNS.out HLL.out (fun _ v l w => by unfold innI; rw [if_pos HD8.out, hso, hrest]; simp))
          rw [← HD.out] at HNO
          have x0 := hx.box.2
          have y5 : ∀ i, (w3.alloc (.cells (ics nx l wd true) 66)).cell? ⟨w.heap.size, i, none⟩ = ics0[i]? := hr5.box.2
          have f5 := hr5.fz
          have HR5 := Lib.hid hr5
          have HB5 := Lib.hid hb5
          rw [← hnx] at hsz
          clear hso hx hr5 hb5 gend hrest hwr gw glen hnx
          go_wp2_with fail
          have cF := it_cells HR5.out (.int .i64 0) (.int .i64 0) (.string ⟨#[]⟩) (.bool false)
          exact bodyPost_ret (v := .agg ics0) (by simp [results, Tryd.results85, go_sem, cF]) rfl ⟨no_res HNO.out, below_set4 HB5.out (Nat.le_refl _) (.int .i64 0) (.int .i64 0) (.string ⟨#[]⟩) (.bool false)⟩
        · have hlt : nx < s.length := by omega
          have hrest : s.drop nx = 41 :: s.drop (nx + 1) := by
            rcases gend with h | ⟨v, h⟩
            · have := congrArg List.length h
              simp only [List.length_drop, List.length_nil] at this
              omega
            · rw [drop_cons hlt] at h ⊢
              rw [(List.cons.inj h).1]
          have hone := one_paren (inner := innI (s.length + 1) d) (u := s.drop (a + 1)) (v := s.drop (nx + 1)) (w := wv) (l := l) (by unfold innI; rw [if_pos HD8.out, hso, hrest])
          rw [← HD.out] at hone
          have HONE := Lib.hid hone
          have HWR := Lib.hid hwr
          have HGL := Lib.hid glen
          have en : ((nx : Int) == (s.length : Int)) = false := beq_false_of_ne (by omega)
          clear hone hwr hrest hso gend gw glen
          have x0 := hx.box.2
          have z0 := hx.fz
          have HX : Hid (ItAt (w3.alloc (.cells #[.int .i64 ((nx : Int) + 1), .int .i64 (l : Nat), .string (mkB wd), .bool true] 66)) w3.heap.size (nx + 1) l wd true) := Lib.hid (ItAt.new w3 (nx + 1) l wd true)
          have HR5 := Lib.hid (HR4.out.below (belowA w3 (.cells #[.int .i64 ((nx : Int) + 1), .int .i64 (l : Nat), .string (mkB wd), .bool true] 66)))
          have HB5 := Lib.hid (HB4.out.trans ((belowA w3 (.cells #[.int .i64 ((nx : Int) + 1), .int .i64 (l : Nat), .string (mkB wd), .bool true] 66)).mono HB4.out.size))
          clear hx hr5 hb5
          by_cases hn1 : nx + 1 = s.length
          · have HT : Hid (pTail (s.drop (nx + 1)) l wv = (s.drop (nx + 1), l, wv)) := Lib.hid (by rw [List.drop_of_length_le (by omega : s.length ≤ nx + 1)]; rfl)
            rw [HT.out] at HONE
            rw [← hn1] at hsz
            clear hn1 en
            have en : ((nx : Int) == (nx : Int) + 1) = false := beq_false_of_ne (by omega)
            have x1 : ∀ i, (w3.alloc (.cells #[.int .i64 ((nx : Int) + 1), .int .i64 (l : Nat), .string (mkB wd), .bool true] 66)).cell? ⟨w3.heap.size, i, none⟩ = #[.int .i64 ((nx : Int) + 1), .int .i64 (l : Nat), .string (mkB wd), .bool true][i]? := HX.out.box.2
            have y5 : ∀ i, (w3.alloc (.cells #[.int .i64 ((nx : Int) + 1), .int .i64 (l : Nat), .string (mkB wd), .bool true] 66)).cell? ⟨w.heap.size, i, none⟩ = ics0[i]? := HR5.out.box.2
            have f5 := HR5.out.fz
            go_wp2_with fail
            have cF := it_cells HR5.out (.int .i64 ((nx : Int) + 1)) (.int .i64 (l : Nat)) (.string (mkB wd)) (.bool true)
            exact bodyPost_ret (v := .agg #[.int .i64 ((nx : Int) + 1), .int .i64 (l : Nat), .string (mkB wd), .bool true]) (by simp [results, Tryd.results85, go_sem, cF]) rfl ⟨.inr ⟨nx + 1, l, wv, wd, by omega, by omega, HONE.out, HWR.out, rfl⟩, below_set4 HB5.out (Nat.le_refl _) _ _ _ _⟩
          · skip
            have ha5 : nx + 1 < s.length := by omega
            have ha6 : nx + 1 < (mkB s).size := ha5
            have e1 : ((nx : Int) + 1 == (s.length : Int)) = false := beq_false_of_ne (by omega)
            have hget3 : (mkB s)[nx + 1] = s[nx + 1] := rfl
            have hdr3 := drop_cons ha5
            generalize s[nx + 1] = e at hget3 hdr3
            by_cases hdg : isDig e = true
            · have hT := pTail_dig (u := s.drop (nx + 1 + 1)) (L := l) (W := wv) hdg
              rw [← hdr3] at hT
              rw [hT] at HONE
              clear hT hdr3
              simp only [isDig, Bool.and_eq_true, decide_eq_true_eq] at hdg
              obtain ⟨m, hm⟩ : ∃ m : Nat, e.toNat = m + 48 := ⟨e.toNat - 48, by omega⟩
              have hm9 : m ≤ 9 := by omega
              have XN : ((mkB s)[nx + 1]).toNat = m + 48 := by rw [hget3, hm]
              rw [show e.toNat - 48 = m by omega] at HONE
              clear hget3 hdg hm
              have HWT := Lib.hid (HWR.out.times HGL.out m)
              have k48 : ¬ ((m : Int) + 48 < 48) := by omega
              have k57 : ¬ (57 < (m : Int) + 48) := by omega
              have w1k : IntKind.u8.wrap (m : Int) = (m : Int) := by rw [IntKind.wrap_u8]; omega
              have w2k : IntKind.i64.wrap (m : Int) = (m : Int) := IntWalk.i64_in _ (by omega)
              have h61 := HWR.out.len
              have x1 : ∀ i, (w3.alloc (.cells #[.int .i64 ((nx : Int) + 1), .int .i64 (l : Nat), .string (mkB wd), .bool true] 66)).cell? ⟨w3.heap.size, i, none⟩ = #[.int .i64 ((nx : Int) + 1), .int .i64 (l : Nat), .string (mkB wd), .bool true][i]? := HX.out.box.2
              have y5 : ∀ i, (w3.alloc (.cells #[.int .i64 ((nx : Int) + 1), .int .i64 (l : Nat), .string (mkB wd), .bool true] 66)).cell? ⟨w.heap.size, i, none⟩ = ics0[i]? := HR5.out.box.2
              have f5 := HR5.out.fz
              go_wp2_with fail
              generalize w3.alloc (.cells #[.int .i64 ((nx : Int) + 1), .int .i64 (l : Nat), .string (mkB wd), .bool true] 66) = w5 at HX HR5 HB5 x1 y5 f5 ⊢
              generalize w3.heap.size = X at HX HNE HLE x1 ⊢
              clear x1 y5 f5 x0 z0
              go_loopw [11, 12] (fun v i wr => ∃ j : Nat, j ≤ m ∧ i = .int .i64 j ∧ v = .string (mkB (cutN wd j)) ∧ wr = w5) (fun _ i _ => m - (intOf i).toNat)
              case atStart => exact ⟨0, by omega, rfl, rfl, rfl⟩
              case round =>
                obtain ⟨j, hj, rfl, rfl, rfl⟩ := hrel
                have x1 := HX.out.box.2
                by_cases hlt2 : j < m
                · have hcl : (cutN wd j).length ≤ 61 := by
                    cases j with
                    | zero => exact Nat.zero_le _
                    | succ j => show (cutL _).length ≤ 61; unfold cutL; rw [List.length_take]; omega
                  have hap := mk_append (cutN wd j) wd
                  have hcs : cutN wd (j + 1) = cutL (cutN wd j ++ wd) := rfl
                  have HCS := Lib.hid hcs
                  generalize cutN wd j = cj at hcl hap HCS
                  clear hcs
                  go_wp2_with fail
                  with_reducible refine (cut_any (cj ++ wd) _ (by rw [List.length_append]; omega)).mono ?_
                  rintro _ w6 ⟨rfl, rfl⟩
                  go_wp2_with fail
                  go_roundw
                  case rel => exact ⟨j + 1, by omega, by go_num, by rw [HCS.out], trivial⟩
                  case measure => simp [intOf]; omega
                · obtain rfl : j = m := by omega
                  have wm : IntKind.i64.wrap ((j : Int) * (l : Int)) = ((j * l : Nat) : Int) := by
                    have hle : j * l ≤ 9 * 172186884000 := Nat.mul_le_mul hm9 hbd
                    rw [IntWalk.i64_in _ (by rw [← Int.natCast_mul]; omega), Int.natCast_mul]
                  have y5 : ∀ i, wr.cell? ⟨w.heap.size, i, none⟩ = ics0[i]? := HR5.out.box.2
                  have f5 := HR5.out.fz
                  generalize hcw : cutN wd j = cw at HWT ⊢
                  generalize hml : j * l = ml at wm HWT HONE
                  clear hcw hml
                  go_wp2_with fail
                  have cF := it_cells HR5.out (.int .i64 ((nx : Int) + 1 + 1)) (.int .i64 (ml : Nat)) (.string (mkB cw)) (.bool true)
                  exact bodyPost_ret (v := .agg #[.int .i64 ((nx : Int) + 1 + 1), .int .i64 (ml : Nat), .string (mkB cw), .bool true]) (by simp [results, Tryd.results85, go_sem, cF]) rfl ⟨.inr ⟨nx + 1 + 1, ml, rep j wv, cw, by omega, by omega, HONE.out, HWT.out, rfl⟩, below_set4 HB5.out (Nat.le_refl _) _ _ _ _⟩
            · have hT : pTail (s.drop (nx + 1)) l wv = (s.drop (nx + 1), l, wv) := by rw [hdr3]; exact pTail_no fun e' v h => by rw [← (List.cons.inj h).1]; simpa using hdg
              rw [hT] at HONE
              clear hT hdr3
              have hc : ((e.toNat : Int) < 48) ∨ (¬ ((e.toNat : Int) < 48) ∧ 57 < (e.toNat : Int)) := by
                simp only [isDig, Bool.and_eq_true, decide_eq_true_eq] at hdg
                omega
              clear hdg
              rcases hc with k48 | ⟨k48, k57⟩
              · skip
                have x1 : ∀ i, (w3.alloc (.cells #[.int .i64 ((nx : Int) + 1), .int .i64 (l : Nat), .string (mkB wd), .bool true] 66)).cell? ⟨w3.heap.size, i, none⟩ = #[.int .i64 ((nx : Int) + 1), .int .i64 (l : Nat), .string (mkB wd), .bool true][i]? := HX.out.box.2
                have y5 : ∀ i, (w3.alloc (.cells #[.int .i64 ((nx : Int) + 1), .int .i64 (l : Nat), .string (mkB wd), .bool true] 66)).cell? ⟨w.heap.size, i, none⟩ = ics0[i]? := HR5.out.box.2
                have f5 := HR5.out.fz
                go_wp2_with fail
                have cF := it_cells HR5.out (.int .i64 ((nx : Int) + 1)) (.int .i64 (l : Nat)) (.string (mkB wd)) (.bool true)
                exact bodyPost_ret (v := .agg #[.int .i64 ((nx : Int) + 1), .int .i64 (l : Nat), .string (mkB wd), .bool true]) (by simp [results, Tryd.results85, go_sem, cF]) rfl ⟨.inr ⟨nx + 1, l, wv, wd, by omega, by omega, HONE.out, HWR.out, rfl⟩, below_set4 HB5.out (Nat.le_refl _) _ _ _ _⟩
              · skip
                have x1 : ∀ i, (w3.alloc (.cells #[.int .i64 ((nx : Int) + 1), .int .i64 (l : Nat), .string (mkB wd), .bool true] 66)).cell? ⟨w3.heap.size, i, none⟩ = #[.int .i64 ((nx : Int) + 1), .int .i64 (l : Nat), .string (mkB wd), .bool true][i]? := HX.out.box.2
                have y5 : ∀ i, (w3.alloc (.cells #[.int .i64 ((nx : Int) + 1), .int .i64 (l : Nat), .string (mkB wd), .bool true] 66)).cell? ⟨w.heap.size, i, none⟩ = ics0[i]? := HR5.out.box.2
                have f5 := HR5.out.fz
                go_wp2_with fail
                have cF := it_cells HR5.out (.int .i64 ((nx : Int) + 1)) (.int .i64 (l : Nat)) (.string (mkB wd)) (.bool true)
                exact bodyPost_ret (v := .agg #[.int .i64 ((nx : Int) + 1), .int .i64 (l : Nat), .string (mkB wd), .bool true]) (by simp [results, Tryd.results85, go_sem, cF]) rfl ⟨.inr ⟨nx + 1, l, wv, wd, by omega, by omega, HONE.out, HWR.out, rfl⟩, below_set4 HB5.out (Nat.le_refl _) _ _ _ _⟩
    · subst h40
      have HNO := Lib.hid (one_no (inner := innI (s.length + 1) d) (s.drop (a + 1)) hns hL (fun _ v l w => by unfold innI; rw [if_neg h8]; simp))
      rw [← HD.out] at HNO
      obtain rfl : d = 8 := by omega
      clear hL hns h8 hd
      go_wp2_with fail
      have cF := it_cells HR3.out (.int .i64 0) (.int .i64 0) (.string ⟨#[]⟩) (.bool false)
      exact bodyPost_ret (v := .agg ics0) (by simp [results, Tryd.results85, go_sem, cF]) rfl ⟨no_res HNO.out, below_set4 HB3.out (Nat.le_refl _) (.int .i64 0) (.int .i64 0) (.string ⟨#[]⟩) (.bool false)⟩
  · have c40 : ((c.toNat : Int) == 40) = false := beq_false_of_ne fun e => h40 (UInt8.toNat_inj.1 (by rw [show (40 : UInt8).toNat = 40 from rfl]; omega))
    have HNO := Lib.hid (one_no (inner := innI (s.length + 1) d) (s.drop (a + 1)) hns hL (fun h => absurd h h40))
    rw [← HD.out] at HNO
    clear hL hns h40
    go_wp2_with fail
    have cF := it_cells HR3.out (.int .i64 0) (.int .i64 0) (.string ⟨#[]⟩) (.bool false)
    exact bodyPost_ret (v := .agg ics0) (by simp [results, Tryd.results85, go_sem, cF]) rfl ⟨no_res HNO.out, below_set4 HB3.out (Nat.le_refl _) (.int .i64 0) (.int .i64 0) (.string ⟨#[]⟩) (.bool false)⟩
end Go.Proofs.YtgkgloafjhiakaaDoor
