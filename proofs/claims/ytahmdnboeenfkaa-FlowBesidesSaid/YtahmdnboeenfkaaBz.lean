/- Plain laws: fields side by side, parts; rows behind rows. -/
import Derived.Test.YtahmdnboeenfkaaW34
import Derived.Test.YtahmdnboeenfkaaPl8
import Derived.Test.YtahmdnboeenfkaaPw
namespace Go.Proofs.Ytahmdnboeenfkaa

theorem rngs_add (g : Nat → Int) (k w : Nat) : rngs g (k + w) = rngs g k ++ (List.range w).map fun u => g (k + u) := by
  induction w with
  | zero => simp
  | succ w ih =>
    rw [← Nat.add_assoc, ← rngs_succ, ih, List.range_succ, List.map_append, List.append_assoc]
    rfl
/-- A stretch of a row of places. -/
theorem row_slice {f : Fld} (h : Okf f) {Wn x y w : Nat} (hW : f.W = (Wn : Int)) (hx : x + w ≤ Wn) (hy : (y : Int) < f.H) :
    (f.ds.drop (y * Wn + x)).take w = (List.range w).map fun u => f.dir ((x + u : Nat) : Int) (y : Int) := by
  apply List.ext_getElem?
  intro i
  rw [List.getElem?_take]
  by_cases hi : i < w
  · rw [if_pos hi, List.getElem?_drop, List.getElem?_map, List.getElem?_range hi, Option.map_some]
    obtain ⟨i0, i1, i2, i3, i4⟩ := idx_bd h.w1 h.w2 h.h2 (show (0 : Int) ≤ ((x + i : Nat) : Int) by omega) (by omega) (show (0 : Int) ≤ (y : Int) by omega) hy
    have hl := h.len
    have e : ((y : Int) * f.W + ((x + i : Nat) : Int)).toNat = y * Wn + x + i := by rw [hW]; omega
    have hk : y * Wn + x + i < f.ds.length := by rw [← e]; omega
    unfold Fld.dir
    rw [e, List.getD_eq_getElem?_getD, List.getElem?_eq_getElem hk]
    rfl
  · rw [if_neg hi, List.getElem?_eq_none (by simp; omega)]

def shE (dx dy : Int) (e : Edg) : Edg := (e.1 + dx, e.2.1 + dy, e.2.2)
theorem shE_lt {dx dy : Int} {a b : Edg} : ltE (shE dx dy a) (shE dx dy b) ↔ ltE a b := by
  unfold ltE shE
  simp only
  omega
theorem sh_sorted {l : List Edg} (h : l.Pairwise ltE) (dx dy : Int) : (l.map (shE dx dy)).Pairwise ltE := by
  rw [List.pairwise_map]
  exact h.imp fun h => shE_lt.2 h
theorem shE_shE (a b c d : Int) (e : Edg) : shE a b (shE c d e) = shE (c + a) (d + b) e := by
  refine Prod.ext ?_ (Prod.ext ?_ ?_)
  all_goals first | rfl | (dsimp only [shE]; omega)
theorem shE_zero (e : Edg) : shE 0 0 e = e := by
  refine Prod.ext ?_ (Prod.ext ?_ ?_)
  all_goals first | rfl | (dsimp only [shE]; omega)

def besG (a b : Fld) (i : Nat) : Int :=
  if ((i % (a.W + b.W).toNat : Nat) : Int) < a.W then a.dir ((i % (a.W + b.W).toNat : Nat) : Int) ((i / (a.W + b.W).toNat : Nat) : Int) else b.dir (((i % (a.W + b.W).toNat : Nat) : Int) - a.W) ((i / (a.W + b.W).toNat : Nat) : Int)
def besF (a b : Fld) : Fld := ⟨a.W + b.W, a.H, (List.range ((a.W + b.W) * a.H).toNat).map (besG a b), a.ps ++ b.ps.map (shE a.W 0)⟩
/-- Beside's two results. -/
def besR (a b : Fld) : Fld × Int :=
  if valid a ≠ 0 then (zeroF, valid a) else if valid b ≠ 0 then (zeroF, valid b) else if a.H ≠ b.H then (zeroF, 8) else if 12 < a.W + b.W then (zeroF, 4) else (fin (besF a b), valid (besF a b))
section
variable {a b : Fld}
theorem besR_bad (h : valid a ≠ 0) : besR a b = (zeroF, valid a) := by unfold besR; rw [if_pos h]
theorem besR_bad2 (h : valid a = 0) (h2 : valid b ≠ 0) : besR a b = (zeroF, valid b) := by unfold besR; rw [if_neg (by simpa using h), if_pos h2]
theorem besR_fit (h : valid a = 0) (h2 : valid b = 0) (h3 : a.H ≠ b.H) : besR a b = (zeroF, 8) := by unfold besR; rw [if_neg (by simpa using h), if_neg (by simpa using h2), if_pos h3]
theorem besR_large (h : valid a = 0) (h2 : valid b = 0) (h3 : a.H = b.H) (h4 : 12 < a.W + b.W) : besR a b = (zeroF, 4) := by unfold besR; rw [if_neg (by simpa using h), if_neg (by simpa using h2), if_neg (by simpa using h3), if_pos h4]
theorem besR_ok (h : valid a = 0) (h2 : valid b = 0) (h3 : a.H = b.H) (h4 : ¬ 12 < a.W + b.W) : besR a b = (fin (besF a b), valid (besF a b)) := by unfold besR; rw [if_neg (by simpa using h), if_neg (by simpa using h2), if_neg (by simpa using h3), if_neg h4]
theorem besG_at {x y Wn : Nat} (hW : a.W + b.W = (Wn : Int)) (hx : x < Wn) : besG a b (y * Wn + x) = if (x : Int) < a.W then a.dir (x : Int) (y : Int) else b.dir ((x : Int) - a.W) (y : Int) := by
  have h1 : (y * Wn + x) % (a.W + b.W).toNat = x := by rw [hW, Int.toNat_natCast, Nat.add_comm, Nat.add_mul_mod_self_right, Nat.mod_eq_of_lt hx]
  have h2 : (y * Wn + x) / (a.W + b.W).toNat = y := by rw [hW, Int.toNat_natCast, Nat.add_comm, Nat.add_mul_div_right _ _ (by omega), Nat.div_eq_of_lt hx, Nat.zero_add]
  unfold besG
  rw [h1, h2]
/-- The two stretches of a row. -/
theorem bes_row1 (ha : Okf a) {An Bn y : Nat} (hA : a.W = (An : Int)) (hB : b.W = (Bn : Int)) (hb : 1 ≤ b.W) (hy : (y : Int) < a.H) :
    rngs (besG a b) (y * (An + Bn)) ++ (a.ds.drop (y * An)).take An = rngs (besG a b) (y * (An + Bn) + An) := by
  rw [rngs_add]
  congr 1
  have := row_slice ha (x := 0) (w := An) hA (by omega) hy
  rw [Nat.add_zero] at this
  rw [this]
  refine List.map_congr_left fun u hu => ?_
  have hu' := List.mem_range.1 hu
  rw [besG_at (by rw [hA, hB]; omega) (by omega), if_pos (by omega), Nat.zero_add]
theorem bes_row2 (hb : Okf b) {An Bn y : Nat} (hA : a.W = (An : Int)) (hB : b.W = (Bn : Int)) (hy : (y : Int) < b.H) :
    rngs (besG a b) (y * (An + Bn) + An) ++ (b.ds.drop (y * Bn)).take Bn = rngs (besG a b) ((y + 1) * (An + Bn)) := by
  rw [show (y + 1) * (An + Bn) = y * (An + Bn) + An + Bn by rw [Nat.add_mul, Nat.one_mul]; omega, rngs_add (besG a b) (y * (An + Bn) + An) Bn]
  congr 1
  have := row_slice hb (x := 0) (w := Bn) hB (by omega) hy
  rw [Nat.add_zero] at this
  rw [this]
  refine List.map_congr_left fun u hu => ?_
  have hu' := List.mem_range.1 hu
  rw [Nat.add_assoc, besG_at (by rw [hA, hB]; omega) (by omega), if_neg (by omega), Nat.zero_add]
  congr 1
  omega
theorem bes_ds {An Bn Hn : Nat} (hA : a.W = (An : Int)) (hB : b.W = (Bn : Int)) (hH : a.H = (Hn : Int)) : rngs (besG a b) (Hn * (An + Bn)) = (besF a b).ds := by
  unfold rngs besF
  have : ((a.W + b.W) * a.H).toNat = Hn * (An + Bn) := by
    rw [hA, hB, hH, Nat.mul_comm]
    have : ((An : Int) + (Bn : Int)) * (Hn : Int) = (((An + Bn) * Hn : Nat) : Int) := by push_cast; rfl
    rw [this, Int.toNat_natCast]
  rw [this]
theorem isE_x {W H : Int} {e : Edg} (h : isE W H e = true) : 0 ≤ e.1 ∧ e.1 < W := by
  unfold isE at h
  rw [decide_eq_true_eq] at h
  omega
theorem bes_sorted (ha : Okf a) (hb : Okf b) : (besF a b).ps.Pairwise ltE := by
  show (a.ps ++ b.ps.map (shE a.W 0)).Pairwise ltE
  rw [List.pairwise_append]
  refine ⟨ha.sorted, sh_sorted hb.sorted _ _, fun x hx y hy => ?_⟩
  rw [List.mem_map] at hy
  obtain ⟨e, he, rfl⟩ := hy
  have h1 := isE_x (ha.edge x hx)
  have h2 := isE_x (hb.edge e he)
  unfold ltE shE
  simp only
  omega
theorem bes_dir (ha : Okf a) (hb : Okf b) (hw : a.W + b.W ≤ 12) (x y : Int) (x0 : 0 ≤ x) (x1 : x < a.W + b.W) (y0 : 0 ≤ y) (y1 : y < a.H) : (besF a b).dir x y = if x < a.W then a.dir x y else b.dir (x - a.W) y := by
  obtain ⟨p, rfl⟩ := Int.eq_ofNat_of_zero_le x0
  obtain ⟨q, rfl⟩ := Int.eq_ofNat_of_zero_le y0
  have h1 := ha.w1
  have h2 := hb.w1
  obtain ⟨i0, i1, i2, i3, i4⟩ := idx_bd (show 1 ≤ a.W + b.W by omega) hw ha.h2 x0 x1 y0 y1
  obtain ⟨Wn, hW⟩ := Int.eq_ofNat_of_zero_le (show 0 ≤ a.W + b.W by omega)
  unfold besF
  rw [dir_range i3 i0]
  have e : ((q : Int) * (a.W + b.W) + (p : Int)).toNat = q * Wn + p := by rw [hW]; omega
  rw [e, besG_at hW (by omega)]
end

def cropG (f : Fld) (x y w : Int) (i : Nat) : Int := f.dir (x + ((i % w.toNat : Nat) : Int)) (y + ((i / w.toNat : Nat) : Int))
def cropF (f : Fld) (x y w h : Int) : Fld := ⟨w, h, (List.range (w * h).toNat).map (cropG f x y w), (f.ps.map (shE (-x) (-y))).filter (fun e => isE w h e)⟩
def cropOk (f : Fld) (x y w h : Int) : Prop := 1 ≤ w ∧ 1 ≤ h ∧ 0 ≤ x ∧ 0 ≤ y ∧ x + w ≤ f.W ∧ y + h ≤ f.H
instance (f : Fld) (x y w h : Int) : Decidable (cropOk f x y w h) := by unfold cropOk; infer_instance
/-- Crop's two results. -/
def cropR (f : Fld) (x y w h : Int) : Fld × Int := if valid f ≠ 0 then (zeroF, valid f) else if ¬ cropOk f x y w h then (zeroF, 1) else (fin (cropF f x y w h), valid (cropF f x y w h))
section
variable {f : Fld} {x y w h : Int}
theorem cropR_bad (hv : valid f ≠ 0) : cropR f x y w h = (zeroF, valid f) := by unfold cropR; rw [if_pos hv]
theorem cropR_arg (hv : valid f = 0) (ho : ¬ cropOk f x y w h) : cropR f x y w h = (zeroF, 1) := by unfold cropR; rw [if_neg (by simpa using hv), if_pos ho]
theorem cropR_ok (hv : valid f = 0) (ho : cropOk f x y w h) : cropR f x y w h = (fin (cropF f x y w h), valid (cropF f x y w h)) := by unfold cropR; rw [if_neg (by simpa using hv), if_neg (by simpa using ho)]
theorem cropG_at {i j Wn : Nat} (hW : w = (Wn : Int)) (hi : i < Wn) : cropG f x y w (j * Wn + i) = f.dir (x + (i : Int)) (y + (j : Int)) := by
  have h1 : (j * Wn + i) % w.toNat = i := by rw [hW, Int.toNat_natCast, Nat.add_comm, Nat.add_mul_mod_self_right, Nat.mod_eq_of_lt hi]
  have h2 : (j * Wn + i) / w.toNat = j := by rw [hW, Int.toNat_natCast, Nat.add_comm, Nat.add_mul_div_right _ _ (by omega), Nat.div_eq_of_lt hi, Nat.zero_add]
  unfold cropG
  rw [h1, h2]
theorem crop_row (ho : Okf f) {Fn Wn xn yn j : Nat} (hF : f.W = (Fn : Int)) (hx : x = (xn : Int)) (hy : y = (yn : Int)) (hW : w = (Wn : Int)) (h1 : xn + Wn ≤ Fn) (h2 : ((yn + j : Nat) : Int) < f.H) :
    rngs (cropG f x y w) (j * Wn) ++ (f.ds.drop ((yn + j) * Fn + xn)).take Wn = rngs (cropG f x y w) ((j + 1) * Wn) := by
  rw [show (j + 1) * Wn = j * Wn + Wn by rw [Nat.add_mul, Nat.one_mul], rngs_add]
  congr 1
  rw [row_slice ho hF h1 h2]
  refine List.map_congr_left fun u hu => ?_
  have hu' := List.mem_range.1 hu
  rw [cropG_at hW hu', hx, hy]
  congr 1
theorem crop_ds {Wn Hn : Nat} (hW : w = (Wn : Int)) (hH : h = (Hn : Int)) : rngs (cropG f x y w) (Hn * Wn) = (cropF f x y w h).ds := by
  unfold rngs cropF
  have : (w * h).toNat = Hn * Wn := by
    rw [hW, hH, Nat.mul_comm]
    have : (Wn : Int) * (Hn : Int) = ((Wn * Hn : Nat) : Int) := by push_cast; rfl
    rw [this, Int.toNat_natCast]
  rw [this]
theorem crop_sorted (ho : Okf f) : (cropF f x y w h).ps.Pairwise ltE := (sh_sorted ho.sorted _ _).filter _
theorem crop_dir (ho : Okf f) (hc : cropOk f x y w h) (i j : Int) (i0 : 0 ≤ i) (i1 : i < w) (j0 : 0 ≤ j) (j1 : j < h) : (cropF f x y w h).dir i j = f.dir (x + i) (y + j) := by
  obtain ⟨c1, c2, c3, c4, c5, c6⟩ := hc
  have o1 := ho.w2
  have o2 := ho.h2
  obtain ⟨p, rfl⟩ := Int.eq_ofNat_of_zero_le i0
  obtain ⟨q, rfl⟩ := Int.eq_ofNat_of_zero_le j0
  obtain ⟨k0, k1, k2, k3, k4⟩ := idx_bd c1 (by omega) (show h ≤ 12 by omega) i0 i1 j0 j1
  obtain ⟨Wn, hW⟩ := Int.eq_ofNat_of_zero_le (show 0 ≤ w by omega)
  unfold cropF
  rw [dir_range k3 k0]
  have e : ((q : Int) * w + (p : Int)).toNat = q * Wn + p := by rw [hW]; omega
  rw [e, cropG_at hW (by omega)]
theorem crop_okf (ho : Okf f) (hc : cropOk f x y w h) : Okf (cropF f x y w h) := by
  have hc' := hc
  obtain ⟨c1, c2, c3, c4, c5, c6⟩ := hc
  have o1 := ho.w2
  have o2 := ho.h2
  have h0 : 0 ≤ w * h := Int.mul_nonneg (by omega) (by omega)
  refine ⟨c1, by show w ≤ 12; omega, c2, by show h ≤ 12; omega, ?_, ?_, ?_, ?_, crop_sorted ho⟩
  · show (((List.range (w * h).toNat).map (cropG f x y w)).length : Int) = w * h
    rw [List.length_map, List.length_range]; omega
  · intro d hd
    have hd' : d ∈ (List.range (w * h).toNat).map (cropG f x y w) := hd
    rw [List.mem_map] at hd'
    obtain ⟨i, hi, rfl⟩ := hd'
    have hi' := List.mem_range.1 hi
    obtain ⟨Wn, hW⟩ := Int.eq_ofNat_of_zero_le (show 0 ≤ w by omega)
    obtain ⟨Hn, hH⟩ := Int.eq_ofNat_of_zero_le (show 0 ≤ h by omega)
    have hWn : 0 < Wn := by omega
    have e1 : (w * h).toNat = Hn * Wn := by
      rw [hW, hH, Nat.mul_comm]
      have : (Wn : Int) * (Hn : Int) = ((Wn * Hn : Nat) : Int) := by push_cast; rfl
      rw [this, Int.toNat_natCast]
    rw [e1] at hi'
    have e2 : i / w.toNat < Hn := by rw [hW, Int.toNat_natCast, Nat.div_lt_iff_lt_mul hWn]; exact hi'
    have e3 : i % w.toNat < Wn := by rw [hW, Int.toNat_natCast]; exact Nat.mod_lt _ hWn
    unfold cropG
    generalize i / w.toNat = q at e2 ⊢
    generalize i % w.toNat = r at e3 ⊢
    exact dir_bd ho _ _ (by omega) (by omega) (by omega) (by omega)
  · show ((f.ps.map (shE (-x) (-y))).filter (fun e => isE w h e)).length ≤ 60
    have := List.length_filter_le (fun e => isE w h e) (f.ps.map (shE (-x) (-y)))
    rw [List.length_map] at this
    have := ho.cnt
    omega
  · intro e he
    have he' : e ∈ (f.ps.map (shE (-x) (-y))).filter (fun e => isE w h e) := he
    exact (List.mem_filter.1 he').2
end
section
variable {a b : Fld}
theorem bes_left (hv : valid (besF a b) = 0) (ha : valid a = 0) (hb : valid b = 0) : cropR (besF a b) 0 0 a.W a.H = (a, 0) := by
  have oa := okf_of_valid ha
  have ob := okf_of_valid hb
  have og := okf_of_valid hv
  have a1 := oa.w1
  have a2 := oa.h1
  have b1 := ob.w1
  have hw : a.W + b.W ≤ 12 := og.w2
  have hc : cropOk (besF a b) 0 0 a.W a.H := ⟨a1, a2, Int.le_refl _, Int.le_refl _, by show 0 + a.W ≤ a.W + b.W; omega, by show 0 + a.H ≤ a.H; omega⟩
  have e : cropF (besF a b) 0 0 a.W a.H = a := by
    refine fld_ext (crop_okf og hc) oa rfl rfl ?_ ?_
    · intro x y x0 x1 y0 y1
      have x1' : x < a.W := x1
      have y1' : y < a.H := y1
      rw [crop_dir og hc x y x0 x1 y0 y1, bes_dir oa ob hw _ _ (by omega) (by omega) (by omega) (by omega), if_pos (by omega), Int.zero_add, Int.zero_add]
    · show ((a.ps ++ b.ps.map (shE a.W 0)).map (shE (-0) (-0))).filter (fun e => isE a.W a.H e) = a.ps
      rw [List.map_append, List.filter_append, List.map_map]
      have h1 : (a.ps.map (shE (-0) (-0))).filter (fun e => isE a.W a.H e) = a.ps := by
        rw [show (-0 : Int) = 0 from rfl, List.map_congr_left (g := id) (fun e _ => shE_zero e), List.map_id, List.filter_eq_self]
        exact oa.edge
      have h2 : (b.ps.map (shE (-0) (-0) ∘ shE a.W 0)).filter (fun e => isE a.W a.H e) = [] := by
        rw [List.filter_eq_nil_iff]
        intro e he hE
        rw [List.mem_map] at he
        obtain ⟨z, hz, rfl⟩ := he
        have h3 := isE_x hE
        have h4 := isE_x (ob.edge z hz)
        simp only [Function.comp, shE] at h3
        omega
      rw [h1, h2, List.append_nil]
  rw [cropR_ok hv hc, e, ha]
  unfold fin
  rw [if_pos ha]
theorem bes_right (hv : valid (besF a b) = 0) (ha : valid a = 0) (hb : valid b = 0) (hH : a.H = b.H) : cropR (besF a b) a.W 0 b.W b.H = (b, 0) := by
  have oa := okf_of_valid ha
  have ob := okf_of_valid hb
  have og := okf_of_valid hv
  have a1 := oa.w1
  have b1 := ob.w1
  have b2 := ob.h1
  have hw : a.W + b.W ≤ 12 := og.w2
  have hc : cropOk (besF a b) a.W 0 b.W b.H := ⟨b1, b2, by omega, Int.le_refl _, by show a.W + b.W ≤ a.W + b.W; omega, by show 0 + b.H ≤ a.H; omega⟩
  have e : cropF (besF a b) a.W 0 b.W b.H = b := by
    refine fld_ext (crop_okf og hc) ob rfl rfl ?_ ?_
    · intro x y x0 x1 y0 y1
      have x1' : x < b.W := x1
      have y1' : y < b.H := y1
      rw [crop_dir og hc x y x0 x1 y0 y1, bes_dir oa ob hw _ _ (by omega) (by omega) (by omega) (by omega), if_neg (by omega), Int.zero_add, show a.W + x - a.W = x by omega]
    · show ((a.ps ++ b.ps.map (shE a.W 0)).map (shE (-a.W) (-0))).filter (fun e => isE b.W b.H e) = b.ps
      rw [List.map_append, List.filter_append, List.map_map]
      have h1 : (a.ps.map (shE (-a.W) (-0))).filter (fun e => isE b.W b.H e) = [] := by
        rw [List.filter_eq_nil_iff]
        intro e he hE
        rw [List.mem_map] at he
        obtain ⟨z, hz, rfl⟩ := he
        have h3 := isE_x hE
        have h4 := isE_x (oa.edge z hz)
        simp only [shE] at h3
        omega
      have h2 : (b.ps.map (shE (-a.W) (-0) ∘ shE a.W 0)).filter (fun e => isE b.W b.H e) = b.ps := by
        rw [List.map_congr_left (g := id) (fun e _ => ?_), List.map_id, List.filter_eq_self]
        · exact ob.edge
        · show shE (-a.W) (-0) (shE a.W 0 e) = e
          rw [shE_shE, show a.W + -a.W = 0 by omega]
          exact shE_zero e
      rw [h1, h2, List.nil_append]
  rw [cropR_ok hv hc, e, hb]
  unfold fin
  rw [if_pos hb]
/-- What the law asks behind a field beside another one. -/
theorem besR_parts (h : (besR a b).2 = 0) : cropR (besR a b).1 0 0 a.W a.H = (a, 0) ∧ cropR (besR a b).1 a.W 0 b.W b.H = (b, 0) := by
  by_cases ha : valid a = 0
  · by_cases hb : valid b = 0
    · by_cases hH : a.H = b.H
      · by_cases hw : 12 < a.W + b.W
        · rw [besR_large ha hb hH hw] at h; cases h
        · rw [besR_ok ha hb hH hw] at h ⊢
          have hv : valid (besF a b) = 0 := h
          have hf : fin (besF a b) = besF a b := by unfold fin; rw [if_pos hv]
          rw [hf]
          exact ⟨bes_left hv ha hb, bes_right hv ha hb hH⟩
      · rw [besR_fit ha hb hH] at h; cases h
    · rw [besR_bad2 ha hb] at h; exact absurd h hb
  · rw [besR_bad ha] at h; exact absurd h ha
end
end Go.Proofs.Ytahmdnboeenfkaa

namespace Go.Proofs.Ytahmdnboeenfkaa
open Go.RowKit Go.Sort

set_option maxRecDepth 4000 in
theorem run_pushX (bl : Nat) (w : World) (ty t e : TypeId) {z : Value} {sz bytes : Nat} (ht : Try.prog.underlying t = some (.slice e))
    (hinfo : (Try.prog.info? e).map (fun i => (i.zero, i.size, i.bytes)) = some (some z, sz, bytes)) (hzs : z.cells.size = sz) (hsz : 0 < sz) (hby : bytes ≤ 1000)
    (A : Option Addr) (n c : Nat) (xs : List Value) (ad : Addr) (m cc : Nat) (news : List Value) (hown : w.ownsRow bl e sz (.slice A n c) n xs) (hbl : bl ≤ w.heap.size)
    (hl : news.length = m * sz) (hcell : ∀ j u, news[j]? = some u → w.cell? (ad.add j) = some u) (h1 : ∀ u ∈ news, u.oneCell' = true) (hlen : n + m ≤ 1000000000) :
    ∃ A' c' w', (Builtin.append_ #[t, t] ty #[.slice A n c, .slice (some ad) m cc]).run Try.prog w = .ok (.slice A' (n + m) c') w' ∧ w'.ownsRow bl e sz (.slice A' (n + m) c') (n + m) (xs ++ news) ∧
      w.grownBy w' (Value.slice A n c).ownBlock ∧ (A' = A ∨ ∀ p, A' = some p → w.heap.size ≤ p.block) := by
  obtain ⟨i0, hi, hz0, hz1, hz2⟩ := info_parts hinfo
  have h63 : n + m ≤ maxLen := by unfold maxLen; omega
  have hbytes : (n + m) * bytes ≤ 140737488355328 := by
    have := Nat.mul_le_mul hlen hby
    omega
  by_cases hroom : n + m ≤ c
  · cases A with
    | none =>
      obtain ⟨v', w', hrun, r1, r2, r3⟩ := run_append_own (P := Try.prog) w bl t ty e i0 _ sz bytes ht hi hz0 hz1 hz2 hzs hsz (.slice none n c) n xs hown ad m cc news hl hcell h1 h63 hbytes hbl
      obtain ⟨A', c', rfl⟩ := row_form r1
      have hn0 : n = 0 ∧ c = 0 := by
        rcases hown.2 with ⟨hv, h0⟩ | ⟨g', cap', cur, hv, _⟩
        · injection hv with _ e2 e3; exact ⟨e2, e3⟩
        · cases hv
      obtain ⟨rfl, rfl⟩ := hn0
      obtain rfl : m = 0 := by omega
      have : (Value.slice A' (0 + 0) c') = .slice none 0 0 := r3.2 ⟨rfl, rfl⟩
      injection this with e1 _ _
      exact ⟨A', c', w', hrun, r1, r2, .inl e1⟩
    | some p =>
      obtain ⟨g, rfl⟩ : ∃ g, p = ⟨g, 0, none⟩ := by
        rcases hown.2 with ⟨hv, h0⟩ | ⟨g', cap', cur, hv, _⟩
        · cases hv
        · injection hv with e1 _ _; injection e1 with e1; exact ⟨g', e1⟩
      obtain ⟨w', hr, h2, h3⟩ := run_append_fits (P := Try.prog) w bl t ty e i0 sz ht hi hz1 g n c xs hown ad m cc news hl hcell h1 hroom
      exact ⟨_, _, w', hr, h2, h3, .inl rfl⟩
  · cases A with
    | none =>
      have hn0 : n = 0 ∧ c = 0 := by
        rcases hown.2 with ⟨hv, h0⟩ | ⟨g', cap', cur, hv, _⟩
        · injection hv with _ e2 e3; exact ⟨e2, e3⟩
        · cases hv
      obtain ⟨rfl, rfl⟩ := hn0
      obtain ⟨v', w', hrun, r1, r2, _⟩ := run_append_own (P := Try.prog) w w.heap.size t ty e i0 _ sz bytes ht hi hz0 hz1 hz2 hzs hsz (.slice none 0 0) 0 [] (World.ownsRow_nil w _ e sz) ad m cc news hl hcell h1 h63 hbytes (Nat.le_refl _)
      obtain ⟨A', c', rfl⟩ := row_form r1
      have r3 : w'.ownsRow bl e sz (.slice A' (0 + m) c') (0 + m) (xs ++ news) := by
        have := row_mono r1 hbl
        rw [show xs = [] from List.eq_nil_of_length_eq_zero (by simpa using hown.1)]
        exact this
      exact ⟨A', c', w', hrun, r3, ⟨r2.os, r2.tape, r2.output, r2.size, r2.block⟩, .inr fun p hp => (r1.lt p.block (by rw [hp]; rfl)).1⟩
    | some p =>
      have holds : ∀ j u, xs[j]? = some u → w.cell? (p.add j) = some u := by
        intro j u hj
        have hr := Reads.of_own hown
        have hjl := (List.getElem?_eq_some_iff.1 hj).1
        have hn0 : 0 < n := by
          rcases Nat.eq_zero_or_pos n with h0 | h0
          · have := hown.1; rw [h0] at this; omega
          · exact h0
        obtain ⟨q, hq, _, hc⟩ := hr.look hn0
        injection hq with hq; subst hq
        exact hc j u hj
      obtain ⟨v', w', hrun, r1, r2⟩ := run_append_arg_grows (P := Try.prog) w t ty e i0 _ sz bytes ht hi hz0 hz1 hz2 hzs hsz p n c xs hown.1 holds ad m cc news hl hcell (by omega) h63 hbytes
      obtain ⟨A', c', rfl⟩ := row_form r1
      exact ⟨A', c', w', hrun, row_mono r1 hbl, ⟨r2.os, r2.tape, r2.output, r2.size, fun k hk _ => r2.block k hk (by simp)⟩, .inr fun p hp => (r1.lt p.block (by rw [hp]; rfl)).1⟩
set_option maxRecDepth 4000 in
/-- The same, whatever the second slice's address. -/
theorem run_pushXn (bl : Nat) (w : World) (ty t e : TypeId) {z : Value} {sz bytes : Nat} (ht : Try.prog.underlying t = some (.slice e))
    (hinfo : (Try.prog.info? e).map (fun i => (i.zero, i.size, i.bytes)) = some (some z, sz, bytes)) (hzs : z.cells.size = sz) (hsz : 0 < sz) (hby : bytes ≤ 1000)
    (A : Option Addr) (n c : Nat) (xs : List Value) (X : Option Addr) (m cc : Nat) (news : List Value) (hown : w.ownsRow bl e sz (.slice A n c) n xs) (hbl : bl ≤ w.heap.size)
    (hr : Reads w w.heap.size sz X m news) (hX : X = none → m = 0 ∧ cc = 0) (h1 : ∀ u ∈ news, u.oneCell' = true) (hlen : n + m ≤ 1000000000) :
    ∃ A' c' w', (Builtin.append_ #[t, t] ty #[.slice A n c, .slice X m cc]).run Try.prog w = .ok (.slice A' (n + m) c') w' ∧ w'.ownsRow bl e sz (.slice A' (n + m) c') (n + m) (xs ++ news) ∧
      w.grownBy w' (Value.slice A n c).ownBlock ∧ (A' = A ∨ ∀ p, A' = some p → w.heap.size ≤ p.block) := by
  cases X with
  | some ad =>
    refine run_pushX bl w ty t e ht hinfo hzs hsz hby A n c xs ad m cc news hown hbl hr.len ?_ h1 hlen
    intro j u hj
    rcases Nat.eq_zero_or_pos m with h0 | h0
    · have := hr.len; rw [h0, Nat.zero_mul] at this
      rw [List.eq_nil_of_length_eq_zero this] at hj; cases hj
    · obtain ⟨q, hq, _, hc⟩ := hr.look h0
      injection hq with hq; subst hq
      exact hc j u hj
  | none =>
    obtain ⟨rfl, rfl⟩ := hX rfl
    obtain ⟨i0, hi, hz0, hz1, hz2⟩ := info_parts hinfo
    obtain rfl : news = [] := List.eq_nil_of_length_eq_zero (by simpa using hr.len)
    have hrun := run_append_owned_none (P := Try.prog) w bl t ty e i0 sz ht hi (.slice A n c) n xs hown
    exact ⟨A, c, w, hrun, by simpa using hown, World.grownBy.refl _ _, .inl rfl⟩
set_option maxRecDepth 4000 in
theorem step_pushX {ops : Array Oper} {o : Oper} {a : Act} {K : Act → World → Prop} {Q : Exit → Act → World → Prop} {E : Prop} (hgd : o.guard = none) (s x : Operand) (t e : TypeId)
    (ho : o.op = .call { callee := .builtin .append, args := #[s, x], argTypes := #[t, t] }) {z : Value} {sz bytes : Nat} (ht : Try.prog.underlying t = some (.slice e))
    (hinfo : (Try.prog.info? e).map (fun i => (i.zero, i.size, i.bytes)) = some (some z, sz, bytes)) (hzs : z.cells.size = sz) (hsz : 0 < sz) (hby : bytes ≤ 1000)
    (bl : Nat) (w : World) (A : Option Addr) (n c : Nat) (xs : List Value) (X : Option Addr) (m cc : Nat) (news : List Value) (hs : a.eval s = .slice A n c) (hown : w.ownsRow bl e sz (.slice A n c) n xs) (hbl : bl ≤ w.heap.size)
    (hx : a.eval x = .slice X m cc) (hr : Reads w w.heap.size sz X m news) (hX : X = none → m = 0 ∧ cc = 0) (h1 : ∀ u ∈ news, u.oneCell' = true) (hlen : n + m ≤ 1000000000)
    (h : ∀ A' c' w', w'.ownsRow bl e sz (.slice A' (n + m) c') (n + m) (xs ++ news) → w.grownBy w' (Value.slice A n c).ownBlock → (A' = A ∨ ∀ p, A' = some p → w.heap.size ≤ p.block) → K (a.put o.dst (.slice A' (n + m) c')) w') :
    if Region.wanted o (yielded ops a.tmps) = true then Oper.wp Try.prog o a w K Q else E := by
  have hw : Region.wanted o (yielded ops a.tmps) = true := by simp [Region.wanted, hgd]
  rw [if_pos hw]
  obtain ⟨A', c', w', hrun, h2, h3, h4⟩ := run_pushXn bl w o.type t e ht hinfo hzs hsz hby A n c xs X m cc news hown hbl hr hX h1 hlen
  unfold Oper.wp execOp
  simp only [ho, resolve, invoke, builtin, Sem.run_bind, Sem.run_pure, Result.andThen_ok, List.map_toArray, List.map_cons, List.map_nil, hs, hx, hrun]
  exact h A' c' w' h2 h3 h4
set_option maxRecDepth 4000 in
theorem wpList_pushXn {ops : Array Oper} {rest : List Oper} {o : Oper} {a : Act} {Q : Exit → Act → World → Prop} (hgd : o.guard = none) (s x : Operand) (t e : TypeId)
    (ho : o.op = .call { callee := .builtin .append, args := #[s, x], argTypes := #[t, t] }) {z : Value} {sz bytes : Nat} (ht : Try.prog.underlying t = some (.slice e))
    (hinfo : (Try.prog.info? e).map (fun i => (i.zero, i.size, i.bytes)) = some (some z, sz, bytes)) (hzs : z.cells.size = sz) (hsz : 0 < sz) (hby : bytes ≤ 1000)
    (bl : Nat) (w : World) (A : Option Addr) (n c : Nat) (xs : List Value) (X : Option Addr) (m cc : Nat) (news : List Value) (hs : a.eval s = .slice A n c) (hown : w.ownsRow bl e sz (.slice A n c) n xs) (hbl : bl ≤ w.heap.size)
    (hx : a.eval x = .slice X m cc) (hr : Reads w w.heap.size sz X m news) (hX : X = none → m = 0 ∧ cc = 0) (h1 : ∀ u ∈ news, u.oneCell' = true) (hlen : n + m ≤ 1000000000)
    (h : ∀ A' c' w', w'.ownsRow bl e sz (.slice A' (n + m) c') (n + m) (xs ++ news) → w.grownBy w' (Value.slice A n c).ownBlock → (A' = A ∨ ∀ p, A' = some p → w.heap.size ≤ p.block) → wpList Try.prog ops Q rest (a.put o.dst (.slice A' (n + m) c')) w') :
    wpList Try.prog ops Q (o :: rest) a w := by
  obtain ⟨A', c', w', hrun, h2, h3, h4⟩ := run_pushXn bl w o.type t e ht hinfo hzs hsz hby A n c xs X m cc news hown hbl hr hX h1 hlen
  refine wpList_plain hgd fun K hK' => ?_
  unfold Oper.wp execOp
  simp only [ho, resolve, invoke, builtin, Sem.run_bind, Sem.run_pure, Result.andThen_ok, List.map_toArray, List.map_cons, List.map_nil, hs, hx, hrun]
  exact hK' _ _ (h A' c' w' h2 h3 h4)
section
variable {w1 w w' : World} {a b B : Nat} {v : FV}
/-- The directions of a field that is being made: another row, in place or anew. -/
theorem GF.putD (h : GF w1 a b w B v) {A' : Option Addr} {n' c' : Nat} {ds' : List Int}
    (hr : w'.ownsRow a 3 1 (.slice A' n' c') n' (ints ds')) (hg : w.grownBy w' (Value.slice v.A v.n v.c).ownBlock) (hnew : A' = v.A ∨ ∀ p, A' = some p → w.heap.size ≤ p.block) :
    GF w1 a b (w'.setCell ⟨B, 2, none⟩ (.slice A' n' c')) B ⟨{ v.f with ds := ds' }, A', v.B, n', c', v.m, v.d⟩ := by
  have hBw := h.box.1
  have hrow : ∀ k, (Value.slice v.A v.n v.c).ownBlock = some k → a ≤ k := fun k hk => (h.ds.lt k hk).1
  have hbox : Box w' B #[.int .i64 v.f.W, .int .i64 v.f.H, .slice v.A v.n v.c, .slice v.B v.m v.d] := h.box.grown hg fun k hk => by obtain ⟨p, hp, rfl⟩ := own_blk hk; exact h.nA p hp
  have hfz := fz_grown hBw h.fz hg fun k hk => by obtain ⟨p, hp, rfl⟩ := own_blk hk; exact h.nA p hp
  have hA2 : ∀ p, A' = some p → p.block ≠ B := fun p hp => by
    rcases hnew with h0 | h0
    · exact h.nA p (h0 ▸ hp)
    · have := h0 p hp; omega
  have hps : w'.ownsRow b 33 3 (.slice v.B v.m v.d) v.m (edgs v.f.ps) := by
    refine h.ps.kept hg ?_
    cases hB : v.B with
    | none => exact .inl rfl
    | some p =>
      refine .inr ?_
      cases hA : v.A with
      | none => simp [Value.ownBlock]
      | some q => simp [Value.ownBlock]; exact fun e => h.ne q p hA hB e.symm
  refine ⟨?_, fun j => ?_, ?_, ?_, ?_, hA2, h.nB, ?_, h.hB, h.ha, h.hb⟩
  · have := hbox.set (i := 2) (by simp) (.slice A' n' c'); simpa using this
  · rw [World.frozen?_setCell]; exact hfz j
  · exact row_far hr (q := ⟨B, 2, none⟩) (fun k hk => by obtain ⟨p, hp, rfl⟩ := own_blk hk; exact hA2 p hp) _
  · exact row_far hps (q := ⟨B, 2, none⟩) (fun k hk => by obtain ⟨p, hp, rfl⟩ := own_blk hk; exact h.nB p hp) _
  · intro p q hp hq
    rcases hnew with h0 | h0
    · exact h.ne p q (h0 ▸ hp) hq
    · have := h0 p hp
      have := (h.ps.lt q.block (by rw [show v.B = some q from hq]; rfl)).2
      omega
  · exact (h.bel.grown hg h.bel.size fun k hk => Nat.le_trans h.ha (hrow k hk)).setCell (p := ⟨B, 2, none⟩) h.hB _
end
/-- A world behind a name, whatever stands ahead of it. -/
theorem gen_at {M : World → Prop} {w : World} (P : World → Prop) (h : P w) (k : ∀ W, P W → M W) : M w := k w h
/-- A field with a row of partings, laid into a box that was made ahead of them. -/
theorem GF.boxed2 {w2 w3 : World} {B' : Option Addr} {m d : Nat} {ps : List Edg} {t : TypeId} (hb : Below (w2.alloc (.cells #[.int .i64 0, .int .i64 0, .slice none 0 0, .slice none 0 0] t)).heap.size (w2.alloc (.cells #[.int .i64 0, .int .i64 0, .slice none 0 0, .slice none 0 0] t)) w3)
    (hr : w3.ownsRow (w2.heap.size + 1) 33 3 (.slice B' m d) m (edgs ps)) (W H : Int) :
    GF w2 w2.heap.size w2.heap.size ((((w3.setCell ⟨w2.heap.size, 0, none⟩ (.int .i64 W)).setCell ⟨w2.heap.size, 1, none⟩ (.int .i64 H)).setCell ⟨w2.heap.size, 2, none⟩ (.slice none 0 0)).setCell ⟨w2.heap.size, 3, none⟩ (.slice B' m d)) w2.heap.size ⟨⟨W, H, [], ps⟩, none, B', 0, 0, m, d⟩ := by
  have bx := (Box.new w2 #[.int .i64 0, .int .i64 0, .slice none 0 0, .slice none 0 0] t).below hb
  have fx := fz_below (Box.new w2 #[.int .i64 0, .int .i64 0, .slice none 0 0, .slice none 0 0] t).1 (fz_new w2 _ t) hb
  have hk : ∀ i k, (Value.slice B' m d).ownBlock = some k → k ≠ (⟨w2.heap.size, i, none⟩ : Addr).block := fun i k hk => by
    have := (hr.lt k hk).1
    show k ≠ w2.heap.size
    omega
  have h0 := below1 _ hb
  refine ⟨bx.four _ _ _ _, fun i => ?_, World.ownsRow_nil _ _ _ _, row_mono (row_far (row_far (row_far (row_far hr (hk 0) _) (hk 1) _) (hk 2) _) (hk 3) _) (Nat.le_succ _), fun p q h => (by cases h), fun p h => (by cases h), fun p h => ?_, ?_, Nat.le_refl _, Nat.le_refl _, Nat.le_refl _⟩
  · rw [World.frozen?_setCell, World.frozen?_setCell, World.frozen?_setCell, World.frozen?_setCell]; exact fx i
  · have := (hr.lt p.block (by rw [show B' = some p from h]; rfl)).1
    omega
  · exact (((h0.setCell (p := ⟨w2.heap.size, 0, none⟩) (Nat.le_refl _) _).setCell (p := ⟨w2.heap.size, 1, none⟩) (Nat.le_refl _) _).setCell (p := ⟨w2.heap.size, 2, none⟩) (Nat.le_refl _) _).setCell (p := ⟨w2.heap.size, 3, none⟩) (Nat.le_refl _) _
/-- What a slice of a row of ints reads. -/
theorem ints_part {w : World} {Bd : Nat} {A : Option Addr} {n : Nat} {zs : List Int} (h : Reads w Bd 1 A n (ints zs)) {k m : Nat} (hm : 0 < m) (hk : k + m ≤ n) :
    ∃ p : Addr, A = some p ∧ Reads w Bd 1 (some (p.add k)) m (ints ((zs.drop k).take m)) := by
  obtain ⟨p, hp, hb, hc⟩ := h.look (show 0 < n by omega)
  have hl := h.len
  rw [ints_length, Nat.mul_one] at hl
  refine ⟨p, hp, ⟨by rw [ints_length, List.length_take, List.length_drop]; omega, fun _ => ⟨p.add k, rfl, by rw [blockAdd]; exact hb, fun j u hu => ?_⟩⟩⟩
  have hj : j < m := by
    have := (List.getElem?_eq_some_iff.1 hu).1
    rw [ints_length, List.length_take, List.length_drop] at this
    omega
  rw [add_of_add]
  refine hc (k + j) u ?_
  unfold ints at *
  rw [List.getElem?_map, List.getElem?_take, if_pos hj, List.getElem?_drop] at hu
  rw [List.getElem?_map]
  exact hu
end Go.Proofs.Ytahmdnboeenfkaa

namespace Go.Proofs.Ytahmdnboeenfkaa
open Go.RowKit Go.Sort

theorem run_append_none (w : World) (base : Nat) (t ty e : TypeId) (i : TypeInfo) (size : Nat) (ht : Try.prog.underlying t = some (.slice e)) (hi : Try.prog.info? e = some i)
    (v : Value) (n cc : Nat) (xs : List Value) (hown : w.ownsRow base e size v n xs) :
    (Builtin.append_ #[t, t] ty #[v, .slice none 0 cc]).run Try.prog w = .ok v w := by
  rcases hown.2 with ⟨rfl, rfl⟩ | ⟨g, cap, cur, rfl, _, _, hnc, _⟩
  · simp [Builtin.append_, run_underlying ht, sizeOf, typeInfo, hi, Builtin.lenOf, Builtin.firstCells]
  · simp [Builtin.append_, run_underlying ht, sizeOf, typeInfo, hi, Builtin.lenOf, Builtin.firstCells, hnc, storeCells]
set_option maxRecDepth 4000 in
theorem wpList_pushXm {ops : Array Oper} {rest : List Oper} {o : Oper} {a : Act} {Q : Exit → Act → World → Prop} (hgd : o.guard = none) (s x : Operand) (t e : TypeId)
    (ho : o.op = .call { callee := .builtin .append, args := #[s, x], argTypes := #[t, t] }) {z : Value} {sz bytes : Nat} (ht : Try.prog.underlying t = some (.slice e))
    (hinfo : (Try.prog.info? e).map (fun i => (i.zero, i.size, i.bytes)) = some (some z, sz, bytes)) (hzs : z.cells.size = sz) (hsz : 0 < sz) (hby : bytes ≤ 1000)
    (bl : Nat) (w : World) (A : Option Addr) (n c : Nat) (xs : List Value) (X : Option Addr) (m cc : Nat) (news : List Value) (hs : a.eval s = .slice A n c) (hown : w.ownsRow bl e sz (.slice A n c) n xs) (hbl : bl ≤ w.heap.size)
    (hx : a.eval x = .slice X m cc) (hr : Reads w w.heap.size sz X m news) (h1 : ∀ u ∈ news, u.oneCell' = true) (hlen : n + m ≤ 1000000000)
    (h : ∀ A' c' w', w'.ownsRow bl e sz (.slice A' (n + m) c') (n + m) (xs ++ news) → w.grownBy w' (Value.slice A n c).ownBlock → (A' = A ∨ ∀ p, A' = some p → w.heap.size ≤ p.block) → wpList Try.prog ops Q rest (a.put o.dst (.slice A' (n + m) c')) w') :
    wpList Try.prog ops Q (o :: rest) a w := by
  cases X with
  | some ad => exact wpList_pushXn hgd s x t e ho ht hinfo hzs hsz hby bl w A n c xs (some ad) m cc news hs hown hbl hx hr (fun h => by cases h) h1 hlen h
  | none =>
    have hm : m = 0 := by
      rcases Nat.eq_zero_or_pos m with h0 | h0
      · exact h0
      · obtain ⟨p, hp, _⟩ := hr.look h0; cases hp
    subst hm
    obtain ⟨i0, hi, hz0, hz1, hz2⟩ := info_parts hinfo
    obtain rfl : news = [] := List.eq_nil_of_length_eq_zero (by simpa using hr.len)
    have hrun := run_append_none w bl t o.type e i0 sz ht hi (.slice A n c) n cc xs hown
    refine wpList_plain hgd fun K hK' => ?_
    unfold Oper.wp execOp
    simp only [ho, resolve, invoke, builtin, Sem.run_bind, Sem.run_pure, Result.andThen_ok, List.map_toArray, List.map_cons, List.map_nil, hs, hx, hrun]
    exact hK' _ _ (h A c w (by simpa using hown) (World.grownBy.refl _ _) (.inl rfl))
end Go.Proofs.Ytahmdnboeenfkaa
