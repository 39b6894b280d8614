/- Walks: a field mirrored, the program's. -/
import Derived.Test.YtahmdnboeenfkaaW32
import Derived.Test.YtahmdnboeenfkaaQt
namespace Go.Proofs.Ytahmdnboeenfkaa
open Go.RowKit Go.Sort

/-- The first k elements are told by their number. -/
def mixG (g : Nat → Int) (k : Nat) (l : List Int) : List Int := (List.range k).map g ++ l.drop k
theorem mixG_zero (g : Nat → Int) (l : List Int) : mixG g 0 l = l := by simp [mixG]
theorem mixG_all {g : Nat → Int} {k : Nat} {l : List Int} (h : l.length = k) : mixG g k l = (List.range k).map g := by simp [mixG, List.drop_eq_nil_of_le (Nat.le_of_eq h)]
theorem mixG_get {g : Nat → Int} {k : Nat} {l : List Int} (h : k < l.length) : (mixG g k l)[k]? = some l[k] := by
  unfold mixG
  rw [List.getElem?_append_right (by simp)]
  simp [List.getElem?_drop, h]
theorem mixG_set {g : Nat → Int} {k : Nat} {l : List Int} (h : k < l.length) : (mixG g k l).set k (g k) = mixG g (k + 1) l := by
  unfold mixG
  rw [List.set_append, if_neg (by simp), List.range_succ, List.map_append, List.append_assoc]
  have h0 : k - (List.map g (List.range k)).length = 0 := by simp
  rw [h0, List.drop_eq_getElem_cons h]
  rfl
def mixE (h : Edg → Edg) (k : Nat) (l : List Edg) : List Edg := (l.take k).map h ++ l.drop k
theorem mixE_zero (h : Edg → Edg) (l : List Edg) : mixE h 0 l = l := by simp [mixE]
theorem mixE_all {h : Edg → Edg} {k : Nat} {l : List Edg} (e : l.length ≤ k) : mixE h k l = l.map h := by simp [mixE, List.take_of_length_le e, List.drop_eq_nil_of_le e]
theorem mixE_get {h : Edg → Edg} {k : Nat} {l : List Edg} {d : Edg} (e : l[k]? = some d) : (mixE h k l)[k]? = some d := by
  obtain ⟨hk, rfl⟩ := List.getElem?_eq_some_iff.1 e
  unfold mixE
  rw [List.getElem?_append_right (by simp; omega)]
  simp [Nat.min_eq_left (Nat.le_of_lt hk), List.getElem?_drop]
theorem mixE_set {h : Edg → Edg} {k : Nat} {l : List Edg} {d : Edg} (e : l[k]? = some d) : (mixE h k l).set k (h d) = mixE h (k + 1) l := by
  obtain ⟨hk, rfl⟩ := List.getElem?_eq_some_iff.1 e
  unfold mixE
  rw [List.set_append, if_neg (by simp; omega), List.take_succ_eq_append_getElem hk, List.map_append, List.append_assoc]
  have h0 : k - (List.map h (List.take k l)).length = 0 := by simp; omega
  rw [h0, List.drop_eq_getElem_cons hk]
  rfl
theorem edgs_set {l : List Edg} {k : Nat} {e : Edg} (h : l[k]? = some e) (z : Int) : (edgs l).set (k * 3) (.int .i64 z) = edgs (l.set k (z, e.2.1, e.2.2)) := by
  induction l generalizing k with
  | nil => simp at h
  | cons a l ih =>
    cases k with
    | zero =>
      simp at h; subst h
      rfl
    | succ k =>
      have h' : l[k]? = some e := by simpa using h
      show (ecells a ++ edgs l).set _ _ = ecells a ++ edgs (l.set k _)
      rw [List.set_append, if_neg (by simp [ecells]; omega), ← ih h']
      congr 2
      simp [ecells]; omega
def withP (f : Fld) (ps : List Edg) : Fld := { f with ps := ps }
def FV.withP (v : FV) (ps : List Edg) : FV := { v with f := Ytahmdnboeenfkaa.withP v.f ps }
theorem FOwn.atP {bl : Nat} {w : World} {v : FV} (h : FOwn bl w v) {k : Nat} {e : Edg} (hk : v.f.ps[k]? = some e) : ∃ g, v.B = some ⟨g, 0, none⟩ ∧ bl ≤ g ∧ g < w.heap.size ∧ w.cell? ⟨g, k * 3, none⟩ = some (.int .i64 e.1) ∧
    w.cell? ⟨g, k * 3 + 1, none⟩ = some (.int .i64 e.2.1) ∧ w.cell? ⟨g, k * 3 + 2, none⟩ = some (.int .i64 e.2.2) ∧ ∀ i, w.frozen? ⟨g, i, none⟩ = false := by
  have hl := h.ps.1
  rw [edgs_length] at hl
  have hkl := (List.getElem?_eq_some_iff.1 hk).1
  have hx : v.f.ps.getD k (0, 0, 0) = e := by simp [List.getD_eq_getElem?_getD, hk]
  obtain ⟨r0, r1, r2⟩ := edgs_get hkl
  rw [hx] at r0 r1 r2
  have hd := h.ps
  rcases hd.2 with ⟨hv, h0⟩ | ⟨g, cap, cur, hv, hb, hh, h1, h2, h3, h4⟩
  · omega
  · injection hv with e1 e2 e3
    rw [e1] at hd
    exact ⟨g, e1, hb, (Array.getElem?_eq_some_iff.1 hh).1, (hd.cellAt _ (by omega)).trans r0, (hd.cellAt _ (by omega)).trans r1, (hd.cellAt _ (by omega)).trans r2, fun i => hd.frozenAt i⟩
theorem FOwn.storeP {bl : Nat} {w : World} {v : FV} (h : FOwn bl w v) {g : Nat} (hB : v.B = some ⟨g, 0, none⟩) {k : Nat} {e : Edg} (hk : v.f.ps[k]? = some e) (z : Int) : FOwn bl (w.setCell ⟨g, k * 3, none⟩ (.int .i64 z)) (v.withP (v.f.ps.set k (z, e.2.1, e.2.2))) := by
  have hd := h.ps
  rw [hB] at hd
  obtain ⟨h1, h2⟩ := hd.stored (k * 3) (.int .i64 z)
  rw [edgs_set hk] at h1
  refine ⟨?_, by show World.ownsRow _ _ _ _ (.slice v.B v.m v.d) _ _; rw [hB]; exact h1, h.ne⟩
  refine row_far h.ds (fun j hj => ?_) _
  cases hA : v.A with
  | none => rw [hA] at hj; cases hj
  | some q => rw [hA] at hj; injection hj with hj; subst hj; exact (h.ne _ ⟨g, 0, none⟩ hA hB : q.block ≠ g)
theorem mod_b (n : Int) (w : World) : Calls Try.prog 83 #[.int .i64 n] w fun e w' => e = .returned (.int .i64 (n % 8)) ∧ Below w.heap.size w w' :=
  (mod_any n w).mono fun _ _ h => ⟨h.1, h.2 ▸ Below.refl _ _⟩
theorem eighth_b (n : Int) (w : World) : Calls Try.prog 91 #[.int .i64 n] w fun e w' => e = .returned (.int .i64 (n % 8)) ∧ Below w.heap.size w w' :=
  (eighth_any n w).mono fun _ _ h => ⟨h.1, h.2 ▸ Below.refl _ _⟩

theorem isE_bd {W H : Int} {e : Edg} (h : isE W H e = true) : 0 ≤ e.1 ∧ e.1 < W ∧ (e.2.2 = 0 ∨ e.2.2 = 1) := by
  unfold isE at h
  simp at h
  omega
def mirG (f : Fld) (i : Nat) : Int := (4 - f.dir (f.W - 1 - ((i % f.W.toNat : Nat) : Int)) ((i / f.W.toNat : Nat) : Int)) % 8
def mirE (W : Int) (e : Edg) : Edg := (W - 2 + e.2.2 - e.1, e.2.1, e.2.2)
def mirF (f : Fld) : Fld := ⟨f.W, f.H, (List.range (f.W * f.H).toNat).map (mirG f), sortE (f.ps.map (mirE f.W))⟩
def mirR (f : Fld) : Fld × Int := if valid f ≠ 0 then (zeroF, valid f) else (fin (mirF f), valid (mirF f))
theorem mirR_bad {f : Fld} (h : valid f ≠ 0) : mirR f = (zeroF, valid f) := by unfold mirR; rw [if_pos h]
theorem mirR_ok {f : Fld} (h : valid f = 0) : mirR f = (fin (mirF f), valid (mirF f)) := by unfold mirR; rw [if_neg (by simpa using h)]
theorem mirG_at {f : Fld} {x y : Nat} {Wn : Nat} (hW : f.W = (Wn : Int)) (hx : x < Wn) : mirG f (y * Wn + x) = (4 - f.dir (f.W - 1 - (x : Int)) (y : Int)) % 8 := by
  have h1 : (y * Wn + x) % f.W.toNat = x := by rw [hW, Int.toNat_natCast, Nat.add_comm, Nat.add_mul_mod_self_right, Nat.mod_eq_of_lt hx]
  have h2 : (y * Wn + x) / f.W.toNat = y := by rw [hW, Int.toNat_natCast, Nat.add_comm, Nat.add_mul_div_right _ _ (by omega), Nat.div_eq_of_lt hx, Nat.zero_add]
  unfold mirG
  rw [h1, h2]

set_option maxHeartbeats 4000000 in
set_option maxRecDepth 100000 in
theorem Mirror_any (v : FV) (w : World) (hv : v.In w) :
    Calls Try.prog 49 #[v.val] w (RetOwn (mirR v.f).1 (mirR v.f).2 w) := by
  have HVv := Lib.hid hv
  clear hv
  go_enter Try.func49, Try.ntmps49
  dsimp only [FV.val]
  go_wp2_with fail
  with_reducible refine (validate_any v _ (HVv.out.below (belowAA _ _ _))).mono ?_
  rintro r w1 ⟨rfl, hb1⟩
  have hR := (ResB.new w #[.int .i64 v.f.W, .int .i64 v.f.H, .slice v.A v.n v.c, .slice v.B v.m v.d] 25).on hb1
  have b0 := ((Box.new w #[.int .i64 v.f.W, .int .i64 v.f.H, .slice v.A v.n v.c, .slice v.B v.m v.d] 25).alloc (.cells #[.int .i64 0, .int .i64 0, .slice none 0 0, .slice none 0 0] 25)).below hb1
  have hw1 := Lib.hid (below2 _ _ hb1)
  clear hb1
  by_cases hz : valid v.f = 0
  case neg =>
    have hz' : (valid v.f != 0) = true := by simpa using hz
    have HF := Lib.hid (mirR_bad hz)
    have HR := Lib.hid hR
    have cr := hR.box.at
    have fr := hR.fz
    clear hz hR
    go_wp2_with fail
    have cF := (HR.out.box.four (.int .i64 0) (.int .i64 0) (.slice none 0 0) (.slice none 0 0)).at
    exact bodyPost_ret (v := .tuple #[.agg #[.int .i64 0, .int .i64 0, .slice none 0 0, .slice none 0 0], .int .i64 (valid v.f)]) (by simp [results, Try.results49, go_sem, cF]) rfl
      ⟨⟨zeroF, none, none, 0, 0, 0, 0⟩, by rw [HF.out], by rw [HF.out]; rfl, FOwn.zero _ _, res_bel HR.out.bel HR.out.le _ _ _ _⟩
  have ok := Lib.hid (okf_of_valid hz)
  have hz' : (valid v.f != 0) = false := by simpa using hz
  have HS := Lib.hid (mirR_ok hz)
  have HZ := Lib.hid hz
  have HV1 := Lib.hid (HVv.out.below hw1.out)
  have HRR := Lib.hid hR
  obtain ⟨n0, m0⟩ := okf_lens (okf_of_valid hz)
  have okw := ok.out.w2
  have okw1 := ok.out.w1
  have okh := ok.out.h2
  have okh1 := ok.out.h1
  have q1 : v.n ≤ 1000000 := by have := HVv.out.len; omega
  have q2 : v.m ≤ 1000000 := by have := HVv.out.lenp; omega
  have HN0 := Lib.hid n0
  have HM0 := Lib.hid m0
  clear hz hR n0 m0
  have c0 := b0.at
  go_wp2_with fail
  clear c0
  with_reducible refine (clone_any v _ HV1.out q1 q2).mono ?_
  rintro r w2 ⟨u, huf, rfl, ho0, hb2⟩
  have HU := Lib.hid huf
  have HO := Lib.hid ho0
  have HB2 := Lib.hid hb2
  have HUN := Lib.hid (show u.n = u.f.ds.length from ho0.In.len)
  have HUM := Lib.hid (show u.m = u.f.ps.length from ho0.In.lenp)
  have hul : u.n ≤ 144 := by rw [HUN.out, huf]; exact HN0.out
  have huml : u.m ≤ 60 := by rw [HUM.out, huf]; exact HM0.out
  obtain ⟨Wn, hWn⟩ := Int.eq_ofNat_of_zero_le (show 0 ≤ v.f.W by omega)
  obtain ⟨Hn, hHn⟩ := Int.eq_ofNat_of_zero_le (show 0 ≤ v.f.H by omega)
  have hunl : u.n = Wn * Hn := by
    have h1 := ok.out.len
    rw [HUN.out, huf]
    rw [hWn, hHn] at h1
    exact_mod_cast h1
  have HUL := Lib.hid hunl
  have HW := Lib.hid hWn
  have HH := Lib.hid hHn
  have hWn1 : (Wn : Int) ≤ v.f.W := by omega
  have hWn2 : v.f.W ≤ (Wn : Int) := by omega
  have hHn1 : (Hn : Int) ≤ v.f.H := by omega
  have hHn2 : v.f.H ≤ (Hn : Int) := by omega
  clear huf ho0 hb2 q1 q2 hWn hHn hunl
  dsimp only [FV.val]
  have b2 := b0.below HB2.out
  have cA := fun o => ((b2.alloc o).at)
  have cN := (Box.new w2 #[.int .i64 u.f.W, .int .i64 u.f.H, .slice u.A u.n u.c, .slice u.B u.m u.d] 25).at
  go_wp2_with fail
  clear cA cN
  refine wp_gen (fun W => Box W w2.heap.size #[.int .i64 u.f.W, .int .i64 u.f.H, .slice u.A u.n u.c, .slice u.B u.m u.d] ∧ FOwn w1.heap.size W u ∧ Below w1.heap.size w1 W) ⟨Box.new _ _ _, HO.out.on (belowA _ _), below_trans' HB2.out (belowA _ _)⟩ ?_
  rintro w3 ⟨bo, ho3, hb3⟩
  have HO3 := Lib.hid ho3
  have HB3 := Lib.hid hb3
  have hAlt := Lib.hid (fun p (hp : u.A = some p) => (HO.out.blkA hp).2)
  have hBlt := Lib.hid (fun p (hp : u.B = some p) => (HO.out.blkB hp).2)
  clear ho3 hb3 b2
  go_loopw [20] (fun i wr => ∃ y : Nat, (y : Int) ≤ v.f.H ∧ i = .int .i64 y ∧ Box wr w2.heap.size #[.int .i64 u.f.W, .int .i64 u.f.H, .slice u.A u.n u.c, .slice u.B u.m u.d] ∧ FOwn w1.heap.size wr (u.withD (mixG (mirG v.f) (y * Wn) u.f.ds)) ∧ Below w1.heap.size w1 wr) (fun i _ => (v.f.H - intOf i).toNat)
  case atStart => exact ⟨0, by omega, rfl, bo, by rw [Nat.zero_mul, mixG_zero]; exact HO3.out, HB3.out⟩
  case round =>
    clear bo
    obtain ⟨y, hy, rfl, bo, hoy, hby⟩ := hrel
    have HOy := Lib.hid hoy
    have HBy := Lib.hid hby
    have b3 := b0.below hby
    by_cases hlty : (y : Int) < v.f.H
    · have c0 := b3.at
      clear hoy hby
      go_wp2_with fail
      clear c0
      go_loopw [25] (fun i wr => ∃ x : Nat, (x : Int) ≤ v.f.W ∧ i = .int .i64 x ∧ Box wr w2.heap.size #[.int .i64 u.f.W, .int .i64 u.f.H, .slice u.A u.n u.c, .slice u.B u.m u.d] ∧ FOwn w1.heap.size wr (u.withD (mixG (mirG v.f) (y * Wn + x) u.f.ds)) ∧ Below w1.heap.size w1 wr) (fun i _ => (v.f.W - intOf i).toNat)
      case atStart => exact ⟨0, by omega, rfl, bo, HOy.out, HBy.out⟩
      case round =>
        clear bo b3
        obtain ⟨x, hx, rfl, bo, hox, hbx⟩ := hrel
        have HOx := Lib.hid hox
        have HBx := Lib.hid hbx
        have b3 := b0.below hbx
        by_cases hltx : (x : Int) < v.f.W
        · obtain ⟨i0, i1, i2, i3, i4⟩ := idx_bd okw1 okw okh (show (0 : Int) ≤ x by omega) hltx (show (0 : Int) ≤ y by omega) hlty
          have hxW : x < Wn := by omega
          have hkn : y * Wn + x < u.n := by
            rw [HUL.out]
            have : y + 1 ≤ Hn := by omega
            have := Nat.mul_le_mul_right Wn this
            rw [Nat.add_mul, Nat.one_mul, Nat.mul_comm Hn] at this
            omega
          have hkd : y * Wn + x < u.f.ds.length := by rw [← HUN.out]; exact hkn
          obtain ⟨g, hg, hgl, hgw, d0, z0⟩ := hox.atD (k := y * Wn + x) (mixG_get hkd)
          have hg' : u.A = some ⟨g, 0, none⟩ := hg
          have hgo : g < w2.heap.size := hAlt.out _ hg'
          have hke : (y : Int) * v.f.W + (x : Int) = ((y * Wn + x : Nat) : Int) := by rw [HW.out]; push_cast; rfl
          have X : ∀ w, (Instr.indexAt 22 (.slice u.A u.n u.c) (.int .i64 ((y : Int) * v.f.W + (x : Int)))).run Try.prog w = .ok (.pointer (some ⟨g, y * Wn + x, none⟩)) w := fun w => by
            have := ix22 (c := u.c) hg' hkn w
            rw [← hke] at this
            rwa [show (⟨g, 0, none⟩ : Addr).add (y * Wn + x) = ⟨g, y * Wn + x, none⟩ by unfold Addr.add; split <;> simp_all] at this
          have HSET := Lib.hid (mixG_set (g := mirG v.f) hkd)
          have HGV := Lib.hid (mirG_at (f := v.f) (y := y) HW.out hxW)
          have hdb := dir_bd ok.out (v.f.W - 1 - (x : Int)) (y : Int) (by omega) (by omega) (by omega) hlty
          obtain ⟨db0, db1⟩ := hdb
          have HG := Lib.hid hg'
          have HNE := Lib.hid (show w2.heap.size ≠ (⟨g, y * Wn + x, none⟩ : Addr).block from by show w2.heap.size ≠ g; omega)
          have HV3 := Lib.hid (HV1.out.below hbx)
          have Q0 := Lib.hid (fun w5 (hb : Below wr.heap.size wr w5) => at_any v (v.f.W - 1 - (x : Int)) (y : Int) w5 (HV3.out.below hb) ok.out.size (by omega) (by omega) (by omega) hlty)
          have co := bo.rg
          have c3 := b3.rg
          have hgl' := Lib.hid hgl
          have hgw' := Lib.hid hgw
          have D0 := Lib.hid d0
          have Z0 := Lib.hid z0
          clear hox hbx hg hg' hkn hke d0 z0 hgl hgw hgo
          go_wp2_with fail
          generalize v.f.dir (v.f.W - 1 - (x : Int)) (y : Int) = dd at db0 db1 HGV Q0
          refine wp_region_qt 19 mixed (by kernel_rfl) ?_
          simp only [List.take_succ_cons, List.take_zero, List.drop_succ_cons, List.drop_zero]
          repeat (go_big_quiet_step (first | exact rg_call Q0.out _ _ | exact rg_call (fun w _ => mod_b _ w) _ _))
          refine wpQuiet_nil ?_
          intro w4 hb4
          have d4 := (hb4.cell (p := ⟨g, y * Wn + x, none⟩) hgw'.out).trans D0.out
          have z4 := (hb4.frozen (p := ⟨g, y * Wn + x, none⟩) hgw'.out).trans (Z0.out (y * Wn + x))
          have HO5 := Lib.hid ((HOx.out.on hb4).storeD HG.out (y * Wn + x) (mirG v.f (y * Wn + x)))
          have HB5 := Lib.hid ((below_trans' HBx.out hb4).setCell (p := ⟨g, y * Wn + x, none⟩) hgl'.out (.int .i64 (mirG v.f (y * Wn + x))))
          have b5 := (bo.below hb4).far (p := ⟨g, y * Wn + x, none⟩) HNE.out (.int .i64 (mirG v.f (y * Wn + x)))
          rw [← HGV.out]
          clear hb4 co c3 bo b3 X D0 Z0
          go_wp2_with fail
          go_roundw
          case rel => exact ⟨x + 1, by omega, by go_num, b5, by rw [← Nat.add_assoc, ← HSET.out]; exact HO5.out, HB5.out⟩
          case measure => simp [intOf]; omega
        · have HX := Lib.hid (show y * Wn + x = (y + 1) * Wn by rw [show x = Wn by omega, Nat.add_mul, Nat.one_mul])
          clear hox hbx
          go_wp2_with fail
          go_roundw
          case rel => exact ⟨y + 1, by omega, by go_num, bo, by rw [← HX.out]; exact HOx.out, HBx.out⟩
          case measure => simp [intOf]; omega
    · have hds : mixG (mirG v.f) (y * Wn) u.f.ds = (mirF v.f).ds := by
        have h1 : y = Hn := by omega
        have h2 : u.f.ds.length = y * Wn := by rw [← HUN.out, HUL.out, h1, Nat.mul_comm]
        rw [mixG_all h2]
        unfold mirF
        rw [HW.out, HH.out, h1, Nat.mul_comm]
        rfl
      have HD := Lib.hid (show FOwn w1.heap.size wr (u.withD (mirF v.f).ds) by rw [← hds]; exact hoy)
      have co := bo.at
      clear hoy hby HOy hds
      go_wp2_with fail
      clear co
      refine wp_gen (fun W => Box W w2.heap.size #[.int .i64 u.f.W, .int .i64 u.f.H, .slice u.A u.n u.c, .slice u.B u.m u.d] ∧ FOwn w1.heap.size W (u.withD (mirF v.f).ds) ∧ Below w1.heap.size w1 W) ⟨bo, HD.out, HBy.out⟩ ?_
      clear bo b3 HBy HD HO3 HB3 hy hlty
      rintro w4 ⟨bo, hd4, hb4⟩
      have HD4 := Lib.hid hd4
      have HB4 := Lib.hid hb4
      clear hd4 hb4
      go_loopw [52] (fun i wr => ∃ k : Nat, k ≤ u.m ∧ i = .int .i64 k ∧ Box wr w2.heap.size #[.int .i64 u.f.W, .int .i64 u.f.H, .slice u.A u.n u.c, .slice u.B u.m u.d] ∧ FOwn w1.heap.size wr ((u.withD (mirF v.f).ds).withP (mixE (mirE v.f.W) k u.f.ps)) ∧ Below w1.heap.size w1 wr) (fun i _ => u.m - (intOf i).toNat)
      case atStart => exact ⟨0, by omega, rfl, bo, by rw [mixE_zero]; exact HD4.out, HB4.out⟩
      case round =>
        clear bo
        obtain ⟨k, hk, rfl, bo, hok, hbk⟩ := hrel
        have HOk := Lib.hid hok
        have HBk := Lib.hid hbk
        have b3 := b0.below hbk
        by_cases hlt : k < u.m
        · have hkd : k < u.f.ps.length := by rw [← HUM.out]; exact hlt
          obtain ⟨e, he⟩ : ∃ e, u.f.ps[k]? = some e := ⟨_, List.getElem?_eq_getElem hkd⟩
          obtain ⟨g, hg, hgl, hgw, d0, d1, d2, z0⟩ := hok.atP (k := k) (e := e) (mixE_get he)
          have hg' : u.B = some ⟨g, 0, none⟩ := hg
          have hgo : g < w2.heap.size := hBlt.out _ hg'
          have X : ∀ w, (Instr.indexAt 23 (.slice u.B u.m u.d) (.int .i64 (k : Int))).run Try.prog w = .ok (.pointer (some ⟨g, k * 3, none⟩)) w := fun w => by
            have := ix23 (c := u.d) hg' hlt w
            rwa [show (⟨g, 0, none⟩ : Addr).add (k * 3) = ⟨g, k * 3, none⟩ by unfold Addr.add; split <;> simp_all] at this
          have HSET := Lib.hid (mixE_set (h := mirE v.f.W) he)
          have heE := ok.out.edge e (by rw [← HU.out]; exact List.mem_of_getElem? he)
          have HG := Lib.hid hg'
          have HNE := Lib.hid (show w2.heap.size ≠ (⟨g, k * 3, none⟩ : Addr).block from by show w2.heap.size ≠ g; omega)
          have HEB := Lib.hid (isE_bd heE)
          obtain ⟨x, y', up⟩ := e
          have heb := HEB.out
          dsimp only at heb
          obtain ⟨x0, x1, up01⟩ := heb
          have HMX := Lib.hid (mixE_get (h := mirE v.f.W) he)
          have co := bo.at
          have c3 := b3.at
          have z0' := z0 (k * 3)
          have cA := fun o => ((bo.alloc o).at)
          have c3A := fun o => ((b3.alloc o).at)
          have HGW := Lib.hid hgw
          have HGL := Lib.hid hgl
          clear hok hbk hg hg' he z0 hgl heE hkd hgo
          rcases up01 with rfl | rfl
          · go_wp2_with fail
            have HZV := Lib.hid (show v.f.W - 2 - x = (mirE v.f.W (x, y', 0)).1 by show _ = v.f.W - 2 + 0 - x; omega)
            rw [HZV.out]
            have HO5 := Lib.hid ((HOk.out.storeP HG.out HMX.out (mirE v.f.W (x, y', 0)).1).on (belowA _ (Obj.cells #[.int .i64 x, .int .i64 y', .int .i64 0] 33)))
            have HB5 := Lib.hid (below_trans' (HBk.out.setCell (p := ⟨g, k * 3, none⟩) HGL.out (.int .i64 (mirE v.f.W (x, y', 0)).1)) (belowA _ (Obj.cells #[.int .i64 x, .int .i64 y', .int .i64 0] 33)))
            have b5 := (bo.far (p := ⟨g, k * 3, none⟩) HNE.out (.int .i64 (mirE v.f.W (x, y', 0)).1)).alloc (Obj.cells #[.int .i64 x, .int .i64 y', .int .i64 0] 33)
            clear co c3 cA c3A d0 d1 d2 bo b3 X HZV
            go_roundw
            case rel => exact ⟨k + 1, by omega, by go_num, b5, by rw [← HSET.out]; exact HO5.out, HB5.out⟩
            case measure => simp [intOf]; omega
          · go_wp2_with fail
            have HZV := Lib.hid (show v.f.W - 1 - x = (mirE v.f.W (x, y', 1)).1 by show _ = v.f.W - 2 + 1 - x; omega)
            rw [HZV.out]
            have HO5 := Lib.hid ((HOk.out.storeP HG.out HMX.out (mirE v.f.W (x, y', 1)).1).on (belowA _ (Obj.cells #[.int .i64 x, .int .i64 y', .int .i64 1] 33)))
            have HB5 := Lib.hid (below_trans' (HBk.out.setCell (p := ⟨g, k * 3, none⟩) HGL.out (.int .i64 (mirE v.f.W (x, y', 1)).1)) (belowA _ (Obj.cells #[.int .i64 x, .int .i64 y', .int .i64 1] 33)))
            have b5 := (bo.far (p := ⟨g, k * 3, none⟩) HNE.out (.int .i64 (mirE v.f.W (x, y', 1)).1)).alloc (Obj.cells #[.int .i64 x, .int .i64 y', .int .i64 1] 33)
            clear co c3 cA c3A d0 d1 d2 bo b3 X HZV
            go_roundw
            case rel => exact ⟨k + 1, by omega, by go_num, b5, by rw [← HSET.out]; exact HO5.out, HB5.out⟩
            case measure => simp [intOf]; omega
        · have hres : Calls Try.prog 84 #[u.val] wr (RetOwn (fin (mirF v.f)) (valid (mirF v.f)) w1) := by
            have h := result_any ((u.withD (mirF v.f).ds).withP (mixE (mirE v.f.W) k u.f.ps)) w1 wr HBk.out HOk.out (by show u.m ≤ _; omega)
            have e : srt ((u.withD (mirF v.f).ds).withP (mixE (mirE v.f.W) k u.f.ps)).f = mirF v.f := by
              show srt (withP (withD u.f _) _) = _
              rw [mixE_all (by have := HUM.out; omega), HU.out]; rfl
            rw [e] at h
            exact h
          have HRES := Lib.hid hres
          have co := bo.at
          clear hok hbk hres
          go_wp2_with fail
          with_reducible refine HRES.out.mono ?_
          rintro r w5 ⟨u', hu', rfl, ho5, hb5⟩
          have HU' := Lib.hid hu'
          have HO5 := Lib.hid ho5
          have HR5 := Lib.hid (HRR.out.on hb5)
          have hlt1 := Lib.hid HRR.out.box.1
          have cr := HR5.out.box.at
          have fr := HR5.out.fz
          clear hu' ho5 hb5 co bo
          dsimp only [FV.val]
          go_wp2_with fail
          have cF := (HR5.out.box.four (.int .i64 u'.f.W) (.int .i64 u'.f.H) (.slice u'.A u'.n u'.c) (.slice u'.B u'.m u'.d)).at
          have HE := res_own HO5.out hlt1.out HR5.out.bel HR5.out.le hw1.out.size (.int .i64 u'.f.W) (.int .i64 u'.f.H) (.slice u'.A u'.n u'.c) (.slice u'.B u'.m u'.d)
          exact bodyPost_ret (v := .tuple #[.agg #[.int .i64 u'.f.W, .int .i64 u'.f.H, .slice u'.A u'.n u'.c, .slice u'.B u'.m u'.d], .int .i64 (valid (mirF v.f))]) (by simp [results, Try.results49, go_sem, cF]) rfl
            ⟨u', by rw [HU'.out, HS.out], by rw [HS.out], HE.1, HE.2⟩
end Go.Proofs.Ytahmdnboeenfkaa
