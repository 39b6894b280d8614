/- Walks: Fold both sides; the sums of two copies; the law CardFolds. -/
import Derived.Test.YtpoodhhajghaoaaGreatDoorFz
import Derived.Test.YtpoodhhajghaoaaGreatDoorO5
import Derived.Test.YtpoodhhajghaoaaGreatDoorC17
import Derived.Test.YtpoodhhajghaoaaGreatDoorCx
import Derived.Test.YtpoodhhajghaoaaGreatDoorLw
namespace Go.Proofs.YtpoodhhajghaoaaGreatDoor
open Go.RowKit Go.Sort

theorem ordL_length {es : List Ent} (h : Card es) : (ordL es).length = es.length := by
  have := (ordL_perm h).length_eq
  rwa [List.length_range] at this
/-- The text of the entry with a number. -/
def txt (es : List Ent) (j : Nat) : List UInt8 := match es[j]? with
  | some e => e.2.2.2.data.toList
  | none => []
theorem txt_of {es : List Ent} {j : Nat} {e : Ent} (h : es[j]? = some e) : txt es j = e.2.2.2.data.toList := by unfold txt; rw [h]
/-- The history of the first entries in their order. -/
def histK (es : List Ent) (js : List Nat) (k : Nat) : Hst := foldH ((js.take k).map (txt es))
def histO (es : List Ent) : Hst := foldH ((ordL es).map (txt es))
theorem histK_zero (es : List Ent) (js : List Nat) : histK es js 0 = hst0 := rfl
theorem histK_succ {es : List Ent} {js : List Nat} {k j : Nat} {e : Ent} (hj : js[k]? = some j) (he : es[j]? = some e) : histK es js (k + 1) = doD (histK es js k) (deedL e.2.2.2.data.toList) := by
  unfold histK
  rw [take_succ_of hj, List.map_append, List.map_cons, List.map_nil, foldH_snoc, txt_of he, stepH_deed]
theorem histK_full {es : List Ent} {js : List Nat} {k : Nat} (h : js.length ≤ k) : histK es js k = foldH (js.map (txt es)) := by unfold histK; rw [List.take_of_length_le h]
theorem deedL_cut {t : List UInt8} {n : Nat} (h : deedL t = .cut n) : n < 100 := by
  unfold deedL at h
  split at h
  · cases h
  · split at h
    · cases h
    · split at h
      · rename_i r _
        split at h
        · cases h
        · cases h; exact numL_lt r
      · split at h
        · split at h <;> cases h
        · cases h
theorem doD_small {h : Hst} {t : List UInt8} {k : Nat} (hh : h.cut ≤ 100 * k ∧ h.wash ≤ k ∧ h.bleach ≤ k) : (doD h (deedL t)).cut ≤ 100 * (k + 1) ∧ (doD h (deedL t)).wash ≤ k + 1 ∧ (doD h (deedL t)).bleach ≤ k + 1 := by
  cases hd : deedL t with
  | cut n => have := deedL_cut hd; unfold doD; dsimp only; omega
  | wash => unfold doD; dsimp only; omega
  | bleach => unfold doD; dsimp only; omega
  | dye r => unfold doD; dsimp only; omega
  | none => unfold doD; dsimp only; omega
theorem fold_small (l : List (List UInt8)) : (foldH l).cut ≤ 100 * l.length ∧ (foldH l).wash ≤ l.length ∧ (foldH l).bleach ≤ l.length := by
  refine snoc_ind (P := fun l => (foldH l).cut ≤ 100 * l.length ∧ (foldH l).wash ≤ l.length ∧ (foldH l).bleach ≤ l.length) ?_ ?_ l
  · simp [foldH, hst0]
  · intro l t ih
    rw [foldH_snoc, stepH_deed, List.length_append, List.length_singleton]
    exact doD_small ih
theorem histK_small (es : List Ent) (js : List Nat) (k : Nat) : (histK es js k).cut ≤ 100 * k ∧ (histK es js k).wash ≤ k ∧ (histK es js k).bleach ≤ k := by
  have h := fold_small ((js.take k).map (txt es))
  have h2 := List.length_take_le k js
  rw [List.length_map] at h
  unfold histK
  omega
/-- A history and an error. -/
def foldX (es : List Ent) : Hst := if val es = 0 then histO es else hst0
theorem row_block {w : World} {base e sz n c : Nat} {A : Option Addr} {xs : List Value} (h : w.ownsRow base e sz (.slice A n c) n xs) : ∀ p, A = some p → base ≤ p.block := by
  intro p hp
  rcases h.2 with ⟨hv, h0⟩ | ⟨g', cap', cur, hv, hbb, hh, hnc, hcm, hcs, hct⟩
  · cases hv; cases hp
  · injection hv with e1 e2 e3
    rw [hp] at e1
    injection e1 with e1
    subst e1
    exact hbb
end Go.Proofs.YtpoodhhajghaoaaGreatDoor

namespace Go.Proofs.YtpoodhhajghaoaaGreatDoor
open Go.RowKit Go.Sort

/-- Four cells laid. -/
abbrev put4 (u : World) (N : Nat) (x y z t : Value) : World := (((u.setCell ⟨N, 0, none⟩ x).setCell ⟨N, 1, none⟩ y).setCell ⟨N, 2, none⟩ z).setCell ⟨N, 3, none⟩ t
theorem OB.put4 {u : World} {N : Nat} {a b c d : Value} (h : OB u N #[a, b, c, d]) (x y z t : Value) : OB (put4 u N x y z t) N #[x, y, z, t] :=
  (((h.set (i := 0) (by simp) x).set (i := 1) (by simp) y).set (i := 2) (by simp) z).set (i := 3) (by simp) t
theorem below_put4 {b : Nat} {w u : World} {N : Nat} (h : Below b w u) (hb : b ≤ N) (x y z t : Value) : Below b w (put4 u N x y z t) :=
  (((h.setCell (p := ⟨N, 0, none⟩) hb x).setCell (p := ⟨N, 1, none⟩) hb y).setCell (p := ⟨N, 2, none⟩) hb z).setCell (p := ⟨N, 3, none⟩) hb t
theorem counts_cut (n : Int) (w : World) : Calls Tryz.prog 129 #[.int .i64 n] w fun r w' => r = .returned (.bool true) ∧ w' = w := by
  go_enter Tryz.func129, Tryz.ntmps129
  go_wp2_with fail
  go_ret
  exact ⟨rfl, rfl⟩
theorem counts_wash (w : World) : Calls Tryz.prog 130 #[.agg #[]] w fun r w' => r = .returned (.bool true) ∧ w' = w.alloc (.cells #[] 50) := by
  go_enter Tryz.func130, Tryz.ntmps130
  go_wp2_with fail
  go_ret
  exact ⟨rfl, rfl⟩
theorem counts_bleach (w : World) : Calls Tryz.prog 131 #[.agg #[]] w fun r w' => r = .returned (.bool true) ∧ w' = w.alloc (.cells #[] 51) := by
  go_enter Tryz.func131, Tryz.ntmps131
  go_wp2_with fail
  go_ret
  exact ⟨rfl, rfl⟩
theorem counts_dye (t : ByteArray) (w : World) : Calls Tryz.prog 132 #[.string t] w fun r w' => r = .returned (.bool true) ∧ w' = w := by
  go_enter Tryz.func132, Tryz.ntmps132
  go_wp2_with fail
  go_ret
  exact ⟨rfl, rfl⟩
theorem counts_none (w : World) : Calls Tryz.prog 133 #[.agg #[]] w fun r w' => r = .returned (.bool false) ∧ w' = w.alloc (.cells #[] 73) := by
  go_enter Tryz.func133, Tryz.ntmps133
  go_wp2_with fail
  go_ret
  exact ⟨rfl, rfl⟩
theorem MW.set {w : World} (h : MW w) {p : Addr} (hp : 2 < p.block) (u : Value) : MW (w.setCell p u) := by
  obtain ⟨⟨m, h1⟩, ⟨e, h2, h3⟩, f, h4, h5⟩ := h
  have k : ∀ (b : Nat) (v : Value), b ≤ 2 → w.cell? ⟨b, 0, none⟩ = some v → (w.setCell p u).cell? ⟨b, 0, none⟩ = some v := fun b v hb hv => by
    rw [World.cell?_setCell_other _ _ _ _ (fun e => by rw [e] at hp; dsimp only at hp; omega)]; exact hv
  exact ⟨⟨m, k _ _ (by omega) h1⟩, ⟨e, k _ _ (by omega) h2, h3⟩, ⟨f, k _ _ (by omega) h4, h5⟩⟩
theorem MW.size {w : World} (h : MW w) : 2 < w.heap.size := by
  obtain ⟨_, _, f, h4, _⟩ := h
  exact World.block_lt_of_cell? _ _ h4
theorem reads_far {w : World} {size n : Nat} {A : Option Addr} {xs : List Value} (h : Reads w w.heap.size size A n xs) {q : Addr} (hne : ∀ p, A = some p → p.block ≠ q.block) (u : Value) : Reads (w.setCell q u) (w.setCell q u).heap.size size A n xs := by
  rw [size_set]
  exact h.far hne u
set_option maxRecDepth 100000 in
set_option maxHeartbeats 4000000 in
theorem Fold_any (A : Option Addr) (n c : Nat) (es : List Ent) (w : World) (hl : Reads w w.heap.size 6 A n (ents es)) (hn : n ≤ 1000000) (ht : shortT es) (hm : MW w) :
    Calls Tryz.prog 7 #[.slice A n c] w fun r w' => r = .returned (.tuple #[hval (foldX es), .int .i64 (val es)]) ∧ Below w.heap.size w w' := by
  have hlen := hl.1
  rw [ents_length] at hlen
  have hle : es.length = n := by omega
  have HL := Lib.hid hl
  have HS := Lib.hid ht
  have HLE := Lib.hid hle
  have HM := Lib.hid hm
  have HM0 := Lib.hid hm.size
  clear hl ht hlen hle hm
  have B0 := Lib.hid (OB.new w hzero 26)
  go_enter Tryz.func7, Tryz.ntmps7
  go_wp2_with fail
  with_reducible refine (validate_any A n c es _ (HL.out.on (belowA _ _)) hn HS.out).mono ?_
  rintro _ w2 ⟨rfl, hb2⟩
  have B2 := Lib.hid (B0.out.on hb2)
  have HW2 := Lib.hid (below1 _ hb2)
  clear hb2 B0
  by_cases hv : val es = 0
  case neg =>
    have HV : Hid (foldX es = hst0) := Lib.hid (if_neg hv)
    have g := neB hv
    clear hv
    have c0 := B2.out.box.at
    have f0 := B2.out.fz
    unfold hzero at c0
    go_wp2_with fail
    have cF := (OB.put4 B2.out (.int .i64 0) (.int .i64 0) (.int .i64 0) (.string ⟨#[]⟩)).box.at
    rw [HV.out]
    exact bodyPost_ret (v := .tuple #[hval hst0, .int .i64 (val es)]) (by simp [results, Tryz.results7, go_sem, cF, hval, hcs, hst0]) rfl ⟨rfl, below_put4 HW2.out (Nat.le_refl _) _ _ _ _⟩
  have HC := Lib.hid (val_zero.1 hv)
  have HV2 : Hid (foldX es = histO es) := Lib.hid (if_pos hv)
  have HV := Lib.hid hv
  have g := neBf hv
  have h60 : n ≤ 60 := by have := HC.out.len; have := HLE.out; omega
  clear hv
  go_wp2_with fail
  have HA2 := Lib.hid (belowA w2 (.cells hzero 26))
  with_reducible refine (order_any A n c es _ (HL.out.on (below_trans' HW2.out HA2.out)) hn (card_tame HC.out)).mono ?_
  rintro _ w3 ⟨A', c', js, rfl, hj, hr, hb3⟩
  obtain ⟨M, hM⟩ : ∃ M, w2.heap.size = M := ⟨_, rfl⟩
  have hjs := ordd_unique HC.out hj
  have hln : js.length = n := by rw [hjs, ordL_length HC.out, HLE.out]
  have HJ := Lib.hid hjs
  have HLN := Lib.hid hln
  have HM3 := Lib.hid (HM.out.below (below_trans' HW2.out (below_trans' HA2.out hb3)))
  have HWM : Hid (w.heap.size < M) := Lib.hid (by rw [← hM]; exact B2.out.box.1)
  have B3 := Lib.hid ((B2.out.on HA2.out).on hb3)
  have B3' := Lib.hid ((OB.new w2 hzero 26).on hb3)
  have HW3 := Lib.hid (below_trans' HW2.out (below_trans' HA2.out hb3))
  have HR3 := Lib.hid (Reads.of_own hr)
  have HA3 : Hid (∀ p, A' = some p → M < p.block) := Lib.hid fun p hp => by
    have := row_block hr p hp
    rw [World.size_alloc, hM] at this
    omega
  rw [hM] at B3' ⊢
  clear hj hjs hln hr hb3 B2 HW2 HM hM HA2
  go_wp2_with fail
  unfold hzero at B3 B3'
  go_loopw [7, 8, 9, 10, 11, 12, 22] (fun _ _ _ _ _ _ i wr => ∃ k : Nat, k ≤ n ∧ i = .int .i64 k ∧ OB wr w.heap.size #[.int .i64 0, .int .i64 0, .int .i64 0, .string ⟨#[]⟩] ∧ OB wr M (hcs (histK es js k)) ∧ Reads wr wr.heap.size 1 A' n (ints (js.map Int.ofNat)) ∧ MW wr ∧ Below w.heap.size w wr) (fun _ _ _ _ _ _ i _ => n - (intOf i).toNat)
  case atStart => exact ⟨0, by omega, rfl, B3.out, B3'.out, HR3.out, HM3.out, HW3.out⟩
  case round =>
    clear B3 B3' HR3 HW3 HM3
    obtain ⟨k, hk, rfl, b0, b1, hr, hm, hbw⟩ := hrel
    have B0 := Lib.hid b0
    have B1 := Lib.hid b1
    have HR := Lib.hid hr
    have HM := Lib.hid hm
    have HBW := Lib.hid hbw
    clear b0 b1 hr hm hbw
    by_cases hlt : k < n
    · obtain ⟨adj, z, ej, _, hz, dj⟩ := dsat HR.out (k := k) (by have := HLN.out; simp; omega)
      rw [List.getElem?_map] at hz
      obtain ⟨j, hj, rfl⟩ := Option.map_eq_some_iff.1 hz
      have hjl : j < es.length := (mem_ordL HC.out).1 (by rw [← HJ.out]; exact List.mem_of_getElem? hj)
      obtain ⟨ad, e, e1, _, he, d0, d1, d2, d3, d4, d5⟩ := eat (HL.out.on HBW.out) (k := j) hjl
      have HST := Lib.hid (histK_succ hj he)
      have hts : e.2.2.2.size ≤ 1000000 := by have := HS.out e (List.mem_of_getElem? he); omega
      have hjn : j < n := by have := HLE.out; omega
      have X := fun w' => ix46 (c := c') ej hlt w'
      have Y := fun w' => ix22 (c := c) e1 hjn w'
      have hsm := histK_small es js k
      clear d0 d1 d2 d3 d4 hz hj he ej e1
      obtain ⟨hk', hhk⟩ : ∃ hk', histK es js k = hk' := ⟨_, rfl⟩
      rw [hhk] at hsm HST B1
      obtain ⟨hc, hw, hbl, hcol⟩ := hk'
      dsimp only at hsm
      obtain ⟨s1, s2, s3⟩ := hsm
      go_wp2_with fail
      cases hd : deedL e.2.2.2.data.toList with
      | cut q =>
        have K := deedOf_any e.2.2.2 wr hts HM.out
        rw [hd] at K HST
        unfold deedV at K
        dsimp only at K
        unfold doD at HST
        dsimp only at HST
        with_reducible refine K.mono ?_
        rintro _ w4 ⟨rfl, hb4⟩
        have B0 := Lib.hid (B0.out.on hb4)
        have B1 := Lib.hid (B1.out.on hb4)
        have HR := Lib.hid (HR.out.on hb4)
        have HM := Lib.hid (HM.out.below hb4)
        have HBW := Lib.hid (below_trans' HBW.out hb4)
        have hq := deedL_cut hd
        clear hb4 K hd
        have hmt : ∀ w : World, (method 266 48 (.int .i64 q) "wigmaker/card.counts").run Tryz.prog w = .ok (129, .int .i64 q) w := fun _ => by kernel_rfl
        have hta48 : ∀ w : World, (Instr.typeAssert (.iface 48 (.int .i64 q)) 46 48 true).run Tryz.prog w = .ok (.tuple #[.int .i64 q, .bool true]) w := fun _ => by kernel_rfl
        go_wp2_with fail
        with_reducible refine (counts_cut _ _).mono ?_
        rintro _ _ ⟨rfl, rfl⟩
        have c1 := B1.out.box.at
        have f1 := B1.out.fz
        unfold hcs at c1
        dsimp only at c1
        have HM2 : 2 < M := by have := HWM.out; have := HM0.out; omega
        have H1 := (B1.out.set (i := 0) (by simp [hcs]) (.int .i64 ((hc : Int) + q)))
        have H0 := (B0.out.far (p := ⟨M, 0, none⟩) (by have := HWM.out; show w.heap.size ≠ M; omega) (.int .i64 ((hc : Int) + q)))
        have H2 := (reads_far HR.out (q := ⟨M, 0, none⟩) (fun p hp => by have := HA3.out p hp; show p.block ≠ M; omega) (.int .i64 ((hc : Int) + q)))
        have H3 := (HM.out.set (p := ⟨M, 0, none⟩) HM2 (.int .i64 ((hc : Int) + q)))
        have H4 := (HBW.out.setCell (p := ⟨M, 0, none⟩) (by have := HWM.out; show w.heap.size ≤ M; omega) (.int .i64 ((hc : Int) + q)))
        have H1 := Lib.hid H1
        have H0 := Lib.hid H0
        have H2 := Lib.hid H2
        have H3 := Lib.hid H3
        have H4 := Lib.hid H4
        clear B0 B1 HR HM HBW
        go_wp2_with fail
        go_roundw
        case rel => exact ⟨k + 1, by omega, by go_num, H0.out, by rw [HST.out]; exact H1.out, H2.out, H3.out, H4.out⟩
        case measure => simp [intOf]; omega
      | wash =>
        have K := deedOf_any e.2.2.2 wr hts HM.out
        rw [hd] at K HST
        unfold deedV at K
        dsimp only at K
        unfold doD at HST
        dsimp only at HST
        with_reducible refine K.mono ?_
        rintro _ w4 ⟨rfl, hb4⟩
        have B0 := Lib.hid (B0.out.on hb4)
        have B1 := Lib.hid (B1.out.on hb4)
        have HR := Lib.hid (HR.out.on hb4)
        have HM := Lib.hid (HM.out.below hb4)
        have HBW := Lib.hid (below_trans' HBW.out hb4)
        clear hb4 K hd
        have hmt : ∀ w : World, (method 266 50 (.agg #[]) "wigmaker/card.counts").run Tryz.prog w = .ok (130, .agg #[]) w := fun _ => by kernel_rfl
        have hta48 : ∀ w : World, (Instr.typeAssert (.iface 50 (.agg #[])) 46 48 true).run Tryz.prog w = .ok (.tuple #[.int .i64 0, .bool false]) w := fun _ => by kernel_rfl
        have hta50 : ∀ w : World, (Instr.typeAssert (.iface 50 (.agg #[])) 46 50 true).run Tryz.prog w = .ok (.tuple #[.agg #[], .bool true]) w := fun _ => by kernel_rfl
        go_wp2_with fail
        with_reducible refine (counts_wash _).mono ?_
        rintro _ _ ⟨rfl, rfl⟩
        have B0 := Lib.hid (B0.out.on (belowAA w4 (.cells #[] 50) (.cells #[] 50)))
        have B1 := Lib.hid (B1.out.on (belowAA w4 (.cells #[] 50) (.cells #[] 50)))
        have HR := Lib.hid (HR.out.on (belowAA w4 (.cells #[] 50) (.cells #[] 50)))
        have HM := Lib.hid (HM.out.below (belowAA w4 (.cells #[] 50) (.cells #[] 50)))
        have HBW := Lib.hid (below_trans' HBW.out (belowAA w4 (.cells #[] 50) (.cells #[] 50)))
        have c1 := B1.out.box.at
        have f1 := B1.out.fz
        unfold hcs at c1
        dsimp only at c1
        have HM2 : 2 < M := by have := HWM.out; have := HM0.out; omega
        have H1 := (B1.out.set (i := 1) (by simp [hcs]) (.int .i64 ((hw : Int) + 1)))
        have H0 := (B0.out.far (p := ⟨M, 1, none⟩) (by have := HWM.out; show w.heap.size ≠ M; omega) (.int .i64 ((hw : Int) + 1)))
        have H2 := (reads_far HR.out (q := ⟨M, 1, none⟩) (fun p hp => by have := HA3.out p hp; show p.block ≠ M; omega) (.int .i64 ((hw : Int) + 1)))
        have H3 := (HM.out.set (p := ⟨M, 1, none⟩) HM2 (.int .i64 ((hw : Int) + 1)))
        have H4 := (HBW.out.setCell (p := ⟨M, 1, none⟩) (by have := HWM.out; show w.heap.size ≤ M; omega) (.int .i64 ((hw : Int) + 1)))
        have H1 := Lib.hid H1
        have H0 := Lib.hid H0
        have H2 := Lib.hid H2
        have H3 := Lib.hid H3
        have H4 := Lib.hid H4
        clear B0 B1 HR HM HBW
        go_wp2_with fail
        go_roundw
        case rel => exact ⟨k + 1, by omega, by go_num, H0.out, by rw [HST.out]; exact H1.out, H2.out, H3.out, H4.out⟩
        case measure => simp [intOf]; omega
      | bleach =>
        have K := deedOf_any e.2.2.2 wr hts HM.out
        rw [hd] at K HST
        unfold deedV at K
        dsimp only at K
        unfold doD at HST
        dsimp only at HST
        with_reducible refine K.mono ?_
        rintro _ w4 ⟨rfl, hb4⟩
        have B0 := Lib.hid (B0.out.on hb4)
        have B1 := Lib.hid (B1.out.on hb4)
        have HR := Lib.hid (HR.out.on hb4)
        have HM := Lib.hid (HM.out.below hb4)
        have HBW := Lib.hid (below_trans' HBW.out hb4)
        clear hb4 K hd
        have hmt : ∀ w : World, (method 266 51 (.agg #[]) "wigmaker/card.counts").run Tryz.prog w = .ok (131, .agg #[]) w := fun _ => by kernel_rfl
        have hta48 : ∀ w : World, (Instr.typeAssert (.iface 51 (.agg #[])) 46 48 true).run Tryz.prog w = .ok (.tuple #[.int .i64 0, .bool false]) w := fun _ => by kernel_rfl
        have hta50 : ∀ w : World, (Instr.typeAssert (.iface 51 (.agg #[])) 46 50 true).run Tryz.prog w = .ok (.tuple #[.agg #[], .bool false]) w := fun _ => by kernel_rfl
        have hta51 : ∀ w : World, (Instr.typeAssert (.iface 51 (.agg #[])) 46 51 true).run Tryz.prog w = .ok (.tuple #[.agg #[], .bool true]) w := fun _ => by kernel_rfl
        go_wp2_with fail
        with_reducible refine (counts_bleach _).mono ?_
        rintro _ _ ⟨rfl, rfl⟩
        have B0 := Lib.hid (B0.out.on (belowAA w4 (.cells #[] 51) (.cells #[] 51)))
        have B1 := Lib.hid (B1.out.on (belowAA w4 (.cells #[] 51) (.cells #[] 51)))
        have HR := Lib.hid (HR.out.on (belowAA w4 (.cells #[] 51) (.cells #[] 51)))
        have HM := Lib.hid (HM.out.below (belowAA w4 (.cells #[] 51) (.cells #[] 51)))
        have HBW := Lib.hid (below_trans' HBW.out (belowAA w4 (.cells #[] 51) (.cells #[] 51)))
        have c1 := B1.out.box.at
        have f1 := B1.out.fz
        unfold hcs at c1
        dsimp only at c1
        have HM2 : 2 < M := by have := HWM.out; have := HM0.out; omega
        have H1 := ((B1.out.set (i := 2) (by simp [hcs]) (.int .i64 ((hbl : Int) + 1))).set (i := 1) (by simp [hcs]) (.int .i64 0))
        have H0 := ((B0.out.far (p := ⟨M, 2, none⟩) (by have := HWM.out; show w.heap.size ≠ M; omega) (.int .i64 ((hbl : Int) + 1))).far (p := ⟨M, 1, none⟩) (by have := HWM.out; show w.heap.size ≠ M; omega) (.int .i64 0))
        have H2 := (reads_far (reads_far HR.out (q := ⟨M, 2, none⟩) (fun p hp => by have := HA3.out p hp; show p.block ≠ M; omega) (.int .i64 ((hbl : Int) + 1))) (q := ⟨M, 1, none⟩) (fun p hp => by have := HA3.out p hp; show p.block ≠ M; omega) (.int .i64 0))
        have H3 := ((HM.out.set (p := ⟨M, 2, none⟩) HM2 (.int .i64 ((hbl : Int) + 1))).set (p := ⟨M, 1, none⟩) HM2 (.int .i64 0))
        have H4 := ((HBW.out.setCell (p := ⟨M, 2, none⟩) (by have := HWM.out; show w.heap.size ≤ M; omega) (.int .i64 ((hbl : Int) + 1))).setCell (p := ⟨M, 1, none⟩) (by have := HWM.out; show w.heap.size ≤ M; omega) (.int .i64 0))
        have H1 := Lib.hid H1
        have H0 := Lib.hid H0
        have H2 := Lib.hid H2
        have H3 := Lib.hid H3
        have H4 := Lib.hid H4
        clear B0 B1 HR HM HBW
        go_wp2_with fail
        go_roundw
        case rel => exact ⟨k + 1, by omega, by go_num, H0.out, by rw [HST.out]; exact H1.out, H2.out, H3.out, H4.out⟩
        case measure => simp [intOf]; omega
      | dye q =>
        have K := deedOf_any e.2.2.2 wr hts HM.out
        rw [hd] at K HST
        unfold deedV at K
        dsimp only at K
        unfold doD at HST
        dsimp only at HST
        with_reducible refine K.mono ?_
        rintro _ w4 ⟨rfl, hb4⟩
        have B0 := Lib.hid (B0.out.on hb4)
        have B1 := Lib.hid (B1.out.on hb4)
        have HR := Lib.hid (HR.out.on hb4)
        have HM := Lib.hid (HM.out.below hb4)
        have HBW := Lib.hid (below_trans' HBW.out hb4)
        clear hb4 K hd
        have hmt : ∀ w : World, (method 266 52 (.string ⟨q.toArray⟩) "wigmaker/card.counts").run Tryz.prog w = .ok (132, .string ⟨q.toArray⟩) w := fun _ => by kernel_rfl
        have hta48 : ∀ w : World, (Instr.typeAssert (.iface 52 (.string ⟨q.toArray⟩)) 46 48 true).run Tryz.prog w = .ok (.tuple #[.int .i64 0, .bool false]) w := fun _ => by kernel_rfl
        have hta50 : ∀ w : World, (Instr.typeAssert (.iface 52 (.string ⟨q.toArray⟩)) 46 50 true).run Tryz.prog w = .ok (.tuple #[.agg #[], .bool false]) w := fun _ => by kernel_rfl
        have hta51 : ∀ w : World, (Instr.typeAssert (.iface 52 (.string ⟨q.toArray⟩)) 46 51 true).run Tryz.prog w = .ok (.tuple #[.agg #[], .bool false]) w := fun _ => by kernel_rfl
        have hta52 : ∀ w : World, (Instr.typeAssert (.iface 52 (.string ⟨q.toArray⟩)) 46 52 true).run Tryz.prog w = .ok (.tuple #[.string ⟨q.toArray⟩, .bool true]) w := fun _ => by kernel_rfl
        go_wp2_with fail
        with_reducible refine (counts_dye _ _).mono ?_
        rintro _ _ ⟨rfl, rfl⟩
        have c1 := B1.out.box.at
        have f1 := B1.out.fz
        unfold hcs at c1
        dsimp only at c1
        have HM2 : 2 < M := by have := HWM.out; have := HM0.out; omega
        have H1 := ((B1.out.set (i := 3) (by simp [hcs]) (.string ⟨q.toArray⟩)).set (i := 1) (by simp [hcs]) (.int .i64 0))
        have H0 := ((B0.out.far (p := ⟨M, 3, none⟩) (by have := HWM.out; show w.heap.size ≠ M; omega) (.string ⟨q.toArray⟩)).far (p := ⟨M, 1, none⟩) (by have := HWM.out; show w.heap.size ≠ M; omega) (.int .i64 0))
        have H2 := (reads_far (reads_far HR.out (q := ⟨M, 3, none⟩) (fun p hp => by have := HA3.out p hp; show p.block ≠ M; omega) (.string ⟨q.toArray⟩)) (q := ⟨M, 1, none⟩) (fun p hp => by have := HA3.out p hp; show p.block ≠ M; omega) (.int .i64 0))
        have H3 := ((HM.out.set (p := ⟨M, 3, none⟩) HM2 (.string ⟨q.toArray⟩)).set (p := ⟨M, 1, none⟩) HM2 (.int .i64 0))
        have H4 := ((HBW.out.setCell (p := ⟨M, 3, none⟩) (by have := HWM.out; show w.heap.size ≤ M; omega) (.string ⟨q.toArray⟩)).setCell (p := ⟨M, 1, none⟩) (by have := HWM.out; show w.heap.size ≤ M; omega) (.int .i64 0))
        have H1 := Lib.hid H1
        have H0 := Lib.hid H0
        have H2 := Lib.hid H2
        have H3 := Lib.hid H3
        have H4 := Lib.hid H4
        clear B0 B1 HR HM HBW
        go_wp2_with fail
        go_roundw
        case rel => exact ⟨k + 1, by omega, by go_num, H0.out, by rw [HST.out]; exact H1.out, H2.out, H3.out, H4.out⟩
        case measure => simp [intOf]; omega
      | none =>
        have K := deedOf_any e.2.2.2 wr hts HM.out
        rw [hd] at K HST
        unfold deedV at K
        dsimp only at K
        unfold doD at HST
        dsimp only at HST
        with_reducible refine K.mono ?_
        rintro _ w4 ⟨rfl, hb4⟩
        have B0 := Lib.hid (B0.out.on hb4)
        have B1 := Lib.hid (B1.out.on hb4)
        have HR := Lib.hid (HR.out.on hb4)
        have HM := Lib.hid (HM.out.below hb4)
        have HBW := Lib.hid (below_trans' HBW.out hb4)
        clear hb4 K hd
        have hmt : ∀ w : World, (method 266 73 (.agg #[]) "wigmaker/card.counts").run Tryz.prog w = .ok (133, .agg #[]) w := fun _ => by kernel_rfl
        go_wp2_with fail
        with_reducible refine (counts_none _).mono ?_
        rintro _ _ ⟨rfl, rfl⟩
        have B0 := Lib.hid (B0.out.on (belowA w4 (.cells #[] 73)))
        have B1 := Lib.hid (B1.out.on (belowA w4 (.cells #[] 73)))
        have HR := Lib.hid (HR.out.on (belowA w4 (.cells #[] 73)))
        have HM := Lib.hid (HM.out.below (belowA w4 (.cells #[] 73)))
        have HBW := Lib.hid (below_trans' HBW.out (belowA w4 (.cells #[] 73)))
        go_wp2_with fail
        go_roundw
        case rel => exact ⟨k + 1, by omega, by go_num, B0.out, by rw [HST.out]; exact B1.out, HR.out, HM.out, HBW.out⟩
        case measure => simp [intOf]; omega
    · have hkf : histK es js k = histO es := by rw [histK_full (by have := HLN.out; omega), HJ.out]; rfl
      rw [hkf] at B1
      obtain ⟨ho, hho⟩ : ∃ ho, histO es = ho := ⟨_, rfl⟩
      rw [hho] at B1
      obtain ⟨hc, hw, hbl, hcol⟩ := ho
      have HV3 := Lib.hid (HV2.out.trans hho)
      have c0 := B0.out.box.at
      have f0 := B0.out.fz
      have c1 := B1.out.box.at
      unfold hcs at c1
      dsimp only at c1
      have hne := HWM.out
      clear hkf hho
      go_wp2_with fail
      have cF := (OB.put4 B0.out (.int .i64 hc) (.int .i64 hw) (.int .i64 hbl) (.string ⟨hcol.toArray⟩)).box.at
      rw [HV3.out, HV.out]
      exact bodyPost_ret (v := .tuple #[hval ⟨hc, hw, hbl, hcol⟩, .int .i64 0]) (by simp [results, Tryz.results7, go_sem, cF, hval, hcs]) rfl ⟨rfl, below_put4 HBW.out (Nat.le_refl _) _ _ _ _⟩
end Go.Proofs.YtpoodhhajghaoaaGreatDoor

namespace Go.Proofs.YtpoodhhajghaoaaGreatDoor
open Go.RowKit Go.Sort

set_option maxRecDepth 100000 in
set_option maxHeartbeats 4000000 in
theorem refFoldE_any (A : Option Addr) (n c : Nat) (es : List Ent) (w : World) (hl : Reads w w.heap.size 6 A n (ents es)) (hn : n ≤ 1000000) (hnc : n ≤ c) (ht : shortT es) (hm : MW w) :
    Calls Tryz.prog 8 #[.slice A n c] w fun r w' => r = .returned (.tuple #[hval (foldX es), .int .i64 (val es)]) ∧ Below w.heap.size w w' := by
  have hlen := hl.1
  rw [ents_length] at hlen
  have hle : es.length = n := by omega
  have HL := Lib.hid hl
  have HS := Lib.hid ht
  have HLE := Lib.hid hle
  have HM := Lib.hid hm
  have HM0 := Lib.hid hm.size
  clear hl ht hlen hle hm
  have B0 := Lib.hid (OB.new w hzero 30)
  go_enter Tryz.func8, Tryz.ntmps8
  go_wp2_with fail
  with_reducible refine (refValidate_any A n c es _ (HL.out.on (belowA _ _)) hn hnc HS.out).mono ?_
  rintro _ w2 ⟨rfl, hb2⟩
  have B2 := Lib.hid (B0.out.on hb2)
  have HW2 := Lib.hid (below1 _ hb2)
  clear hb2 B0
  by_cases hv : val es = 0
  case neg =>
    have HV : Hid (foldX es = hst0) := Lib.hid (if_neg hv)
    have g := neB hv
    clear hv
    have c0 := B2.out.box.at
    have f0 := B2.out.fz
    unfold hzero at c0
    go_wp2_with fail
    have cF := (OB.put4 B2.out (.int .i64 0) (.int .i64 0) (.int .i64 0) (.string ⟨#[]⟩)).box.at
    rw [HV.out]
    exact bodyPost_ret (v := .tuple #[hval hst0, .int .i64 (val es)]) (by simp [results, Tryz.results8, go_sem, cF, hval, hcs, hst0]) rfl ⟨rfl, below_put4 HW2.out (Nat.le_refl _) _ _ _ _⟩
  have HC := Lib.hid (val_zero.1 hv)
  have HV2 : Hid (foldX es = histO es) := Lib.hid (if_pos hv)
  have HV := Lib.hid hv
  have g := neBf hv
  have h60 : n ≤ 60 := by have := HC.out.len; have := HLE.out; omega
  clear hv
  go_wp2_with fail
  have HA2 := Lib.hid (belowA w2 (.cells hzero 30))
  with_reducible refine (refOrder_any A n c es _ (HL.out.on (below_trans' HW2.out HA2.out)) h60 (card_tame HC.out)).mono ?_
  rintro _ w3 ⟨A', c', rfl, hr, hb3⟩
  obtain ⟨M, hM⟩ : ∃ M, w2.heap.size = M := ⟨_, rfl⟩
  obtain ⟨js, hjs⟩ : ∃ js, js = ordL es := ⟨_, rfl⟩
  have hln : js.length = n := by rw [hjs, ordL_length HC.out, HLE.out]
  have hln' : (ordL es).length = n := by rw [← hjs]; exact hln
  rw [hln'] at hr ⊢
  rw [← hjs] at hr
  clear hln'
  have HJ := Lib.hid hjs
  have HLN := Lib.hid hln
  have HM3 := Lib.hid (HM.out.below (below_trans' HW2.out (below_trans' HA2.out hb3)))
  have HWM : Hid (w.heap.size < M) := Lib.hid (by rw [← hM]; exact B2.out.box.1)
  have B3 := Lib.hid ((B2.out.on HA2.out).on hb3)
  have B3' := Lib.hid ((OB.new w2 hzero 30).on hb3)
  have HW3 := Lib.hid (below_trans' HW2.out (below_trans' HA2.out hb3))
  have HR3 := Lib.hid (Reads.of_own hr)
  have HA3 : Hid (∀ p, A' = some p → M < p.block) := Lib.hid fun p hp => by
    have := row_block hr p hp
    rw [World.size_alloc, hM] at this
    omega
  rw [hM] at B3' ⊢
  clear hjs hln hr hb3 B2 HW2 HM hM HA2
  go_wp2_with fail
  unfold hzero at B3 B3'
  go_loopw [7] (fun i wr => ∃ k : Nat, k ≤ n ∧ i = .int .i64 k ∧ OB wr w.heap.size #[.int .i64 0, .int .i64 0, .int .i64 0, .string ⟨#[]⟩] ∧ OB wr M (hcs (histK es js k)) ∧ Reads wr wr.heap.size 1 A' n (ints (js.map Int.ofNat)) ∧ MW wr ∧ Below w.heap.size w wr) (fun i _ => n - (intOf i).toNat)
  case atStart => exact ⟨0, by omega, rfl, B3.out, B3'.out, HR3.out, HM3.out, HW3.out⟩
  case round =>
    clear B3 B3' HR3 HW3 HM3
    obtain ⟨k, hk, rfl, b0, b1, hr, hm, hbw⟩ := hrel
    have B0 := Lib.hid b0
    have B1 := Lib.hid b1
    have HR := Lib.hid hr
    have HM := Lib.hid hm
    have HBW := Lib.hid hbw
    clear b0 b1 hr hm hbw
    by_cases hlt : k < n
    · obtain ⟨adj, z, ej, _, hz, dj⟩ := dsat HR.out (k := k) (by have := HLN.out; simp; omega)
      rw [List.getElem?_map] at hz
      obtain ⟨j, hj, rfl⟩ := Option.map_eq_some_iff.1 hz
      have hjl : j < es.length := (mem_ordL HC.out).1 (by rw [← HJ.out]; exact List.mem_of_getElem? hj)
      obtain ⟨ad, e, e1, _, he, d0, d1, d2, d3, d4, d5⟩ := eat (HL.out.on HBW.out) (k := j) hjl
      have HST : Hid (histK es js (k + 1) = stepH (histK es js k) e.2.2.2.data.toList) := Lib.hid (by rw [histK_succ hj he, stepH_deed])
      have hts : e.2.2.2.size ≤ 1000000 := by have := HS.out e (List.mem_of_getElem? he); omega
      have hjn : j < n := by have := HLE.out; omega
      have X := fun w' => ix46 (c := c') ej hlt w'
      have Y := fun w' => ix22 (c := c) e1 hjn w'
      have hsm := histK_small es js k
      clear d0 d1 d2 d3 d4 hz hj he ej e1
      obtain ⟨hk', hhk⟩ : ∃ hk', histK es js k = hk' := ⟨_, rfl⟩
      rw [hhk] at hsm HST B1
      have HSM : Hid (smallH hk') := Lib.hid (by unfold smallH; omega)
      obtain ⟨hc, hw, hbl, hcol⟩ := hk'
      clear hsm hhk
      have bm : M < wr.heap.size := B1.out.box.1
      have DJ := Lib.hid dj
      have D5 := Lib.hid d5
      clear dj d5
      go_wp2_with fail
      refine wp_region_hw [0, 1, 2, 3, 4, 5, 6, 7, 8, 9] [10] (fun W => Below wr.heap.size wr W) mixed (by kernel_rfl) (Rl := fun u v => Below u.heap.size u v) (fun w => Below.refl _ _) (fun _ _ _ h1 h2 => below_trans' h1 h2) (fun W W' h hg => below_trans' h hg) (below_drewN' (Below.refl _ _) 1) ?_
      iterate 9
        refine canonR_read (v := ?_) rfl (by rfl) ?_ ?_
        rotate_left
        · intro w hSw
          have c1 := (B1.out.on hSw).box.at
          unfold hcs at c1
          dsimp only at c1
          have dj := (hSw.cell (p := adj.add k) (World.block_lt_of_cell? _ _ DJ.out)).trans DJ.out
          have d5 := (hSw.cell (p := ⟨(ad.add (j * 6)).block, (ad.add (j * 6)).off + 5, none⟩) (World.block_lt_of_cell? _ _ D5.out)).trans D5.out
          go_simp <;> with_reducible rfl
        simp only [List.getElem_toArray, List.getElem_cons_zero, List.getElem_cons_succ, Act.put, List.setIfInBounds_toArray, List.set_cons_succ, List.set_cons_zero]
      have K := fun w => fold_any ⟨hc, hw, hbl, hcol⟩ e.2.2.2 w hts HSM.out
      obtain ⟨h2, hh2⟩ : ∃ h2, stepH ⟨hc, hw, hbl, hcol⟩ e.2.2.2.data.toList = h2 := ⟨_, rfl⟩
      rw [hh2] at HST K
      obtain ⟨c2, wa2, b2, col2⟩ := h2
      unfold hval hcs at K
      dsimp only at K
      have KK := Lib.hid K
      clear K hh2
      refine canonR_call (v := .agg #[.int .i64 c2, .int .i64 wa2, .int .i64 b2, .string ⟨col2.toArray⟩]) (f := 18) (args := #[.agg #[.int .i64 hc, .int .i64 hw, .int .i64 hbl, .string ⟨hcol.toArray⟩], .string e.2.2.2]) rfl (by rfl) ?_ ?_ ?_
      · intro w hSw
        go_simp
      · intro w hSw
        exact KK.out w
      simp only [List.getElem_toArray, List.getElem_cons_zero, List.getElem_cons_succ, Act.put, List.setIfInBounds_toArray, List.set_cons_succ, List.set_cons_zero]
      refine canonR_nil ?_
      refine tailR_last (t := 10) (by kernel_rfl) rfl ?_
      intro w9 hb9
      have hb9 := below_trans' (below_drewN' (Below.refl _ _) 1 : Below wr.heap.size wr wr.drew) hb9
      have B0 := Lib.hid (B0.out.on hb9)
      have B1 := Lib.hid (B1.out.on hb9)
      have HR := Lib.hid (HR.out.on hb9)
      have HM := Lib.hid (HM.out.below hb9)
      have HBW := Lib.hid (below_trans' HBW.out hb9)
      clear hb9
      have c1 := B1.out.box.at
      have f1 := B1.out.fz
      unfold hcs at c1
      dsimp only at c1
      have H1 := Lib.hid (OB.put4 B1.out (.int .i64 c2) (.int .i64 wa2) (.int .i64 b2) (.string ⟨col2.toArray⟩))
      have H0 := Lib.hid ((((B0.out.far (p := ⟨M, 0, none⟩) (by have := HWM.out; show w.heap.size ≠ M; omega) (.int .i64 c2)).far (p := ⟨M, 1, none⟩) (by have := HWM.out; show w.heap.size ≠ M; omega) (.int .i64 wa2)).far (p := ⟨M, 2, none⟩) (by have := HWM.out; show w.heap.size ≠ M; omega) (.int .i64 b2)).far (p := ⟨M, 3, none⟩) (by have := HWM.out; show w.heap.size ≠ M; omega) (.string ⟨col2.toArray⟩))
      have hA : ∀ i, ∀ p, A' = some p → p.block ≠ (⟨M, i, none⟩ : Addr).block := fun i p hp => by have := HA3.out p hp; show p.block ≠ M; omega
      have H2 := Lib.hid (reads_far (reads_far (reads_far (reads_far HR.out (q := ⟨M, 0, none⟩) (hA 0) (.int .i64 c2)) (q := ⟨M, 1, none⟩) (hA 1) (.int .i64 wa2)) (q := ⟨M, 2, none⟩) (hA 2) (.int .i64 b2)) (q := ⟨M, 3, none⟩) (hA 3) (.string ⟨col2.toArray⟩))
      have HM2 : 2 < M := by have := HWM.out; have := HM0.out; omega
      have H3 := Lib.hid ((((HM.out.set (p := ⟨M, 0, none⟩) HM2 (.int .i64 c2)).set (p := ⟨M, 1, none⟩) HM2 (.int .i64 wa2)).set (p := ⟨M, 2, none⟩) HM2 (.int .i64 b2)).set (p := ⟨M, 3, none⟩) HM2 (.string ⟨col2.toArray⟩))
      have H4 := Lib.hid (below_put4 HBW.out (by have := HWM.out; omega : w.heap.size ≤ M) (.int .i64 c2) (.int .i64 wa2) (.int .i64 b2) (.string ⟨col2.toArray⟩))
      clear hA B0 B1 HR HM HBW
      go_wp2_with fail
      refine NoPanic.normal ?_
      go_wp2_with fail
      go_roundw
      case rel => exact ⟨k + 1, by omega, by go_num, H0.out, by rw [HST.out]; exact H1.out, H2.out, H3.out, H4.out⟩
      case measure => simp [intOf]; omega
    · have hkf : histK es js k = histO es := by rw [histK_full (by have := HLN.out; omega), HJ.out]; rfl
      rw [hkf] at B1
      obtain ⟨ho, hho⟩ : ∃ ho, histO es = ho := ⟨_, rfl⟩
      rw [hho] at B1
      obtain ⟨hc, hw, hbl, hcol⟩ := ho
      have HV3 := Lib.hid (HV2.out.trans hho)
      have c0 := B0.out.box.at
      have f0 := B0.out.fz
      have c1 := B1.out.box.at
      unfold hcs at c1
      dsimp only at c1
      have hne := HWM.out
      clear hkf hho
      go_wp2_with fail
      have cF := (OB.put4 B0.out (.int .i64 hc) (.int .i64 hw) (.int .i64 hbl) (.string ⟨hcol.toArray⟩)).box.at
      rw [HV3.out, HV.out]
      exact bodyPost_ret (v := .tuple #[hval ⟨hc, hw, hbl, hcol⟩, .int .i64 0]) (by simp [results, Tryz.results8, go_sem, cF, hval, hcs]) rfl ⟨rfl, below_put4 HBW.out (Nat.le_refl _) _ _ _ _⟩
end Go.Proofs.YtpoodhhajghaoaaGreatDoor

namespace Go.Proofs.YtpoodhhajghaoaaGreatDoor
open Go.RowKit Go.Sort

theorem merge_perm {a b : List Ent} (ha : Card a) (hb : Card b) (hn : noPart a b) : (mergeR a b).Perm (a ++ wo b a false) := by
  have nd : (a ++ wo b a false).Nodup := by
    rw [List.nodup_append]
    refine ⟨sorted_nodup ha.sorted, (sorted_nodup hb.sorted).filter _, fun x hx y hy e => ?_⟩
    subst e
    simp [wo] at hy
    exact hy.2 hx
  refine (List.perm_ext_iff_of_nodup (sorted_nodup (mergeR_sorted ha hb hn)) nd).2 fun e => ?_
  rw [mem_mergeR ha hb, List.mem_append]
  simp only [wo, List.mem_filter, beq_iff_eq, decide_eq_false_iff_not]
  constructor
  · rintro (h | h)
    · exact .inl h
    · by_cases h2 : e ∈ a
      · exact .inl h2
      · exact .inr ⟨h, h2⟩
  · rintro (h | ⟨h, _⟩)
    · exact .inl h
    · exact .inr h
theorem meet_perm {a b : List Ent} (ha : Card a) (hb : Card b) : (wo a b true).Perm (wo b a true) := by
  refine (List.perm_ext_iff_of_nodup ((sorted_nodup ha.sorted).filter _) ((sorted_nodup hb.sorted).filter _)).2 fun e => ?_
  simp only [List.mem_filter, beq_iff_eq, decide_eq_true_eq]
  exact ⟨fun ⟨h1, h2⟩ => ⟨h2, h1⟩, fun ⟨h1, h2⟩ => ⟨h2, h1⟩⟩
theorem part_sum (f : Ent → Nat) (a : List Ent) : ∀ b : List Ent, ((wo b a true).map f).sum + ((wo b a false).map f).sum = (b.map f).sum
  | [] => rfl
  | e :: b => by
    have ih := part_sum f a b
    unfold wo at ih ⊢
    by_cases h : e ∈ a
    · rw [List.filter_cons_of_pos (by simp [h]), List.filter_cons_of_neg (by simp [h])]
      simp only [List.map_cons, List.sum_cons]
      omega
    · rw [List.filter_cons_of_neg (by simp [h]), List.filter_cons_of_pos (by simp [h])]
      simp only [List.map_cons, List.sum_cons]
      omega
theorem sum_perm {l m : List Ent} (f : Ent → Nat) (h : l.Perm m) : (l.map f).sum = (m.map f).sum := (h.map f).sum_nat
/-- What is on two copies together and what is on both is what is on each. -/
theorem two_sums {a b : List Ent} (f : Ent → Nat) (ha : Card a) (hb : Card b) (hn : noPart a b) : ((mergeR a b).map f).sum + ((wo a b true).map f).sum = (a.map f).sum + (b.map f).sum := by
  have h1 := sum_perm f (merge_perm ha hb hn)
  have h2 := sum_perm f (meet_perm ha hb)
  have h3 := part_sum f a b
  rw [List.map_append, List.sum_append_nat] at h1
  omega
end Go.Proofs.YtpoodhhajghaoaaGreatDoor

namespace Go.Proofs.YtpoodhhajghaoaaGreatDoor
open Go.RowKit Go.Sort

theorem card_meet {a b : List Ent} (ha : Card a) (hb : Card b) (hn : noPart a b) : Card (wo a b true) := by
  refine card_intro (Nat.le_trans (List.length_filter_le _ _) ha.len) (ha.sorted.filter _) (fun e he => ⟨a, ha, (mem_wot.1 he).1, fun f hf hs => ?_, fun f hf _ => (mem_wot.1 hf).1⟩)
  rw [mem_wot]
  refine ⟨hf, ?_⟩
  obtain ⟨p, hp, hq⟩ := ha.place hf
  rw [sawE_iff, hq] at hs
  obtain ⟨g, hg, g1, g2⟩ := hb.seen (mem_wot.1 he).2 hp (Ord_num ha.ord f hf).1 hs
  rw [hn f hf g hg (hq.trans g1.symm) g2.symm]
  exact hg
theorem map_txt (es : List Ent) : (List.range es.length).map (txt es) = es.map fun e => e.2.2.2.data.toList := by
  apply List.ext_getElem
  · simp
  · intro i h1 h2
    have hi : i < es.length := by simpa using h1
    simp [txt, List.getElem?_eq_getElem hi]
def cutS (es : List Ent) : Nat := (es.map fun e => cutV e.2.2.2.data.toList).sum
def bleS (es : List Ent) : Nat := (es.map fun e => bleV e.2.2.2.data.toList).sum
theorem hist_sums {es : List Ent} (h : Card es) : (histO es).cut = cutS es ∧ (histO es).bleach = bleS es := by
  have hp := (ordL_perm h).map (txt es)
  rw [map_txt] at hp
  have h1 := foldH_sums ((ordL es).map (txt es))
  unfold histO
  rw [h1.1, h1.2]
  have c := (hp.map cutV).sum_nat
  have b := (hp.map bleV).sum_nat
  rw [c, b, List.map_map, List.map_map]
  exact ⟨rfl, rfl⟩
theorem mrgE_zero {a b : List Ent} : mrgE a b = 0 ↔ val2 a b = 0 ∧ (mergeR a b).length ≤ 60 := by
  unfold mrgE
  constructor
  · intro h
    split at h
    · exact absurd h (by assumption)
    · split at h
      · exact absurd h (by decide)
      · exact ⟨Classical.not_not.1 (by assumption), by omega⟩
  · rintro ⟨h1, h2⟩; rw [if_neg (fun h => h h1), if_neg (by omega)]
theorem mrgL_of {a b : List Ent} (h : mrgE a b = 0) : mrgL a b = mergeR a b := if_pos h
theorem mrgL_not {a b : List Ent} (h : mrgE a b ≠ 0) : mrgL a b = [] := if_neg h
theorem mrgL_len (a b : List Ent) : (mrgL a b).length ≤ 60 := by
  unfold mrgL
  split
  · exact (mrgE_zero.1 (by assumption)).2
  · simp
theorem mrgL_short {a b : List Ent} (ha : shortT a) (hb : shortT b) : shortT (mrgL a b) := by
  intro e he
  unfold mrgL at he
  split at he
  · have h2 := mrgE_zero.1 (by assumption)
    obtain ⟨c1, c2, _⟩ := val2_zero.1 h2.1
    rcases (mem_mergeR c1 c2).1 he with h | h
    · exact ha e h
    · exact hb e h
  · cases he
theorem meetL_len (a b : List Ent) : (meetL a b).length ≤ a.length := by
  unfold meetL
  split
  · exact List.length_filter_le _ _
  · simp
theorem meetL_short {a b : List Ent} (ha : shortT a) : shortT (meetL a b) := by
  intro e he
  unfold meetL at he
  split at he
  · exact ha e (mem_wot.1 he).1
  · cases he
/-- What the law of sums says, plain. -/
theorem sums_law {a b : List Ent} (h : mrgE a b = 0) : val2 a b = 0 ∧ val a = 0 ∧ val b = 0 ∧ val (mrgL a b) = 0 ∧ val (meetL a b) = 0 ∧
    (foldX (mrgL a b)).cut + (foldX (meetL a b)).cut = (foldX a).cut + (foldX b).cut ∧ (foldX (mrgL a b)).bleach + (foldX (meetL a b)).bleach = (foldX a).bleach + (foldX b).bleach := by
  obtain ⟨h1, h2⟩ := mrgE_zero.1 h
  obtain ⟨ca, cb, hn⟩ := val2_zero.1 h1
  have cm : Card (mrgL a b) := by rw [mrgL_of h]; exact card_merge ca cb hn h2
  have ce : Card (meetL a b) := by rw [show meetL a b = wo a b true from if_pos h1]; exact card_meet ca cb hn
  refine ⟨h1, val_zero.2 ca, val_zero.2 cb, val_zero.2 cm, val_zero.2 ce, ?_⟩
  have f : ∀ {es : List Ent}, Card es → foldX es = histO es := fun h => if_pos (val_zero.2 h)
  rw [f ca, f cb, f cm, f ce, (hist_sums ca).1, (hist_sums cb).1, (hist_sums cm).1, (hist_sums ce).1, (hist_sums ca).2, (hist_sums cb).2, (hist_sums cm).2, (hist_sums ce).2, mrgL_of h, show meetL a b = wo a b true from if_pos h1]
  exact ⟨two_sums _ ca cb hn, two_sums _ ca cb hn⟩
/-- What the head of each law asks of a list of entries. -/
structure InE (W w : World) (A : Option Addr) (n c : Nat) (es : List Ent) : Prop where
  rd : Reads w w.heap.size 6 A n (ents es)
  cap : n ≤ c
theorem InE.on {W w w' : World} {A : Option Addr} {n c : Nat} {es : List Ent} (h : InE W w A n c es) (hb : Below w.heap.size w w') : InE W w' A n c es := ⟨h.rd.on hb, h.cap⟩
theorem InE.small {W w : World} {A : Option Addr} {n c : Nat} {es : List Ent} (h : InE W w A n c es) (hl : longE es = false) : n ≤ 1000000 := by
  have := h.rd.1
  rw [ents_length] at this
  have := (long_no hl).1
  omega
theorem foldX_small (es : List Ent) : (foldX es).cut ≤ 6000 ∧ (foldX es).wash ≤ 60 ∧ (foldX es).bleach ≤ 60 := by
  unfold foldX
  split
  · have hc := val_zero.1 (by assumption : val es = 0)
    have h1 := fold_small ((ordL es).map (txt es))
    rw [List.length_map, ordL_length hc] at h1
    have := hc.len
    unfold histO
    omega
  · decide
end Go.Proofs.YtpoodhhajghaoaaGreatDoor

namespace Go.Proofs.YtpoodhhajghaoaaGreatDoor
open Go.RowKit Go.Sort

set_option maxRecDepth 100000 in
set_option maxHeartbeats 4000000 in
theorem lawFolds (A : Option Addr) (n c : Nat) (es : List Ent) (w : World) (hm : MW w) (hl : InE w w A n c es) :
    Calls Tryz.prog 3 #[.slice A n c] w fun r w' => r = .returned (.bool true) ∧ Below w.heap.size w w' := by
  have HL := Lib.hid hl
  have HM := Lib.hid hm
  clear hl hm
  go_enter Tryz.func3, Tryz.ntmps3
  go_wp2_with fail
  with_reducible refine (long_any A n c es _ HL.out.rd).mono ?_
  rintro _ w1 ⟨rfl, hb1⟩
  have HW1 := Lib.hid hb1
  have HM1 := Lib.hid (HM.out.below hb1)
  clear hb1
  cases hlong : longE es
  case true =>
    go_wp2_with fail
    with_reducible refine (known_any _).mono ?_
    rintro _ w2 ⟨rfl, hb2⟩
    go_wp2_with fail
    go_ret
    exact ⟨rfl, below_trans' HW1.out hb2⟩
  have HN := Lib.hid (HL.out.small hlong)
  have HS := Lib.hid (long_no hlong).2
  have HC := Lib.hid HL.out.cap
  replace HL := Lib.hid (HL.out.rd.on HW1.out)
  clear hlong
  go_wp2_with fail
  obtain ⟨⟨hc, hw, hb, hcol⟩, hh⟩ : ∃ h, foldX es = h := ⟨_, rfl⟩
  obtain ⟨e, he⟩ : ∃ e, val es = e := ⟨_, rfl⟩
  have K1 := fun w a => Fold_any A n c es w a HN.out HS.out
  have K2 := fun w a => refFoldE_any A n c es w a HN.out HC.out HS.out
  rw [hh, he] at K1 K2
  unfold hval hcs at K1 K2
  dsimp only at K1 K2
  have KA := Lib.hid K1
  have KB := Lib.hid K2
  clear K1 K2 hh he
  have HBw1 := HW1
  have HMw1 := HM1
  clear HW1 HM1
  with_reducible refine (KA.out w1 HL.out HMw1.out).mono ?_
  rintro _ w2a ⟨rfl, hbw2⟩
  have HBw2 := Lib.hid (below_trans' HBw1.out hbw2)
  have HMw2 := Lib.hid (HMw1.out.below hbw2)
  replace HL := Lib.hid (HL.out.on hbw2)
  clear hbw2 HBw1 HMw1
  go_wp2_with fail
  have bxh := Box.new w2a #[.int .i64 hc, .int .i64 hw, .int .i64 hb, .string ⟨hcol.toArray⟩] 26
  have hbw2 := belowA w2a (.cells #[.int .i64 hc, .int .i64 hw, .int .i64 hb, .string ⟨hcol.toArray⟩] 26)
  generalize w2a.alloc (.cells #[.int .i64 hc, .int .i64 hw, .int .i64 hb, .string ⟨hcol.toArray⟩] 26) = w2 at bxh hbw2 ⊢
  have Xh := Lib.hid bxh
  replace HBw2 := Lib.hid (below_trans' HBw2.out hbw2)
  replace HMw2 := Lib.hid (HMw2.out.below hbw2)
  replace HL := Lib.hid (HL.out.on hbw2)
  generalize w2a.heap.size = qh at Xh ⊢
  clear hbw2 bxh
  with_reducible refine (KB.out w2 HL.out HMw2.out).mono ?_
  rintro _ w3 ⟨rfl, hb3⟩
  have HBw3 := Lib.hid (below_trans' (below_trans' HBw2.out hb3) (belowA w3 (.cells #[.int .i64 hc, .int .i64 hw, .int .i64 hb, .string ⟨hcol.toArray⟩] 30)))
  have Xh3 := Xh.out.below hb3
  have c1 := (Xh3.alloc (.cells #[.int .i64 hc, .int .i64 hw, .int .i64 hb, .string ⟨hcol.toArray⟩] 30)).at
  have c2 := (Box.new w3 #[.int .i64 hc, .int .i64 hw, .int .i64 hb, .string ⟨hcol.toArray⟩] 30).at
  clear hb3 HBw2 HMw2 Xh3 Xh KB KA
  go_wp2_with fail
  with_reducible refine (known_any _).mono ?_
  rintro _ w4 ⟨rfl, hb4⟩
  have HB4 := Lib.hid (below_trans' HBw3.out hb4)
  clear hb4
  go_wp2_with fail
  go_ret
  exact ⟨rfl, HB4.out⟩
end Go.Proofs.YtpoodhhajghaoaaGreatDoor
