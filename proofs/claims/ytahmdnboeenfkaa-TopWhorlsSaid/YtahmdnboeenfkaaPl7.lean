/- Plain laws: how steeply a field turns, and all directions turned. No program stands here. -/
import Derived.Test.YtahmdnboeenfkaaPl2
namespace Go.Proofs.Ytahmdnboeenfkaa

def absI (z : Int) : Int := if 0 ≤ z then z else -z
def mxl (g : Edg → Int) : List Edg → Int
  | [] => 0
  | e :: l => max (absI (g e)) (mxl g l)
theorem mxl_le (g : Edg → Int) (l : List Edg) (b : Int) : mxl g l ≤ b ↔ 0 ≤ b ∧ ∀ e ∈ l, absI (g e) ≤ b := by
  induction l with
  | nil => simp [mxl]
  | cons a l ih => simp only [mxl, List.mem_cons, forall_eq_or_imp, Int.max_le, ih]; constructor <;> (rintro ⟨h1, h2, h3⟩; exact ⟨by assumption, by assumption, h3⟩)
theorem mxl_nonneg (g : Edg → Int) (l : List Edg) : 0 ≤ mxl g l := by
  induction l with
  | nil => simp [mxl]
  | cons a l ih => simp only [mxl]; have := Int.le_max_right (absI (g a)) (mxl g l); omega
theorem mxl_mem {g : Edg → Int} {l : List Edg} {e : Edg} (h : e ∈ l) : absI (g e) ≤ mxl g l := ((mxl_le g l _).1 (Int.le_refl _)).2 e h
theorem mxl_same {g h : Edg → Int} {l m : List Edg} (hm : ∀ e, e ∈ l ↔ e ∈ m) (hg : ∀ e ∈ l, absI (g e) = absI (h e)) : mxl g l = mxl h m := by
  apply Int.le_antisymm
  · rw [mxl_le]; exact ⟨mxl_nonneg _ _, fun e he => by rw [hg e he]; exact mxl_mem ((hm e).1 he)⟩
  · rw [mxl_le]; exact ⟨mxl_nonneg _ _, fun e he => by rw [← hg e ((hm e).2 he)]; exact mxl_mem ((hm e).2 he)⟩
theorem mxl_snoc (g : Edg → Int) (l : List Edg) (e : Edg) : mxl g (l ++ [e]) = max (mxl g l) (absI (g e)) := by
  induction l with
  | nil =>
    simp only [List.nil_append, mxl]
    rw [Int.max_comm]
  | cons a l ih => simp only [List.cons_append, mxl, ih, Int.max_assoc]
theorem mxl_take_succ {g : Edg → Int} {l : List Edg} {k : Nat} {e : Edg} (h : l[k]? = some e) : mxl g (l.take (k + 1)) = max (mxl g (l.take k)) (absI (g e)) := by
  obtain ⟨hk, rfl⟩ := List.getElem?_eq_some_iff.1 h
  rw [List.take_succ_eq_append_getElem hk, mxl_snoc]
def stp_ (f : Fld) : Int := mxl f.trn (edgesP f.W f.H f.H.toNat)
/-- Steep's two results. -/
def steepR (f : Fld) : Int × Int := if valid f ≠ 0 then (0, valid f) else (stp_ f, 0)
theorem stp_R (f : Fld) : mxl f.trn (edgesR f.W f.H f.W.toNat) = stp_ f := mxl_same (fun e => by rw [mem_edgesR, mem_edgesP]) fun _ _ => rfl
theorem trn_abs (f : Fld) (e : Edg) : 0 ≤ absI (f.trn e) ∧ absI (f.trn e) ≤ 4 := by have := trn_bd f e; unfold absI; split <;> omega
theorem stp_bd (f : Fld) (l : List Edg) : 0 ≤ mxl f.trn l ∧ mxl f.trn l ≤ 4 := ⟨mxl_nonneg _ _, (mxl_le _ _ _).2 ⟨by omega, fun e _ => (trn_abs f e).2⟩⟩
theorem stp_three {f : Fld} (h : valid f = 0) : stp_ f ≤ 3 := by
  refine (mxl_le _ _ _).2 ⟨by omega, fun e he => ?_⟩
  have h1 := trn_bd f e
  have h2 : f.trn e ≠ 4 := fun h4 => notsharp_of_valid h ⟨e, he, h4⟩
  unfold absI; split <;> omega

/-- A field that asks nothing more is valid. -/
theorem valid_of_okf {f : Fld} (h : Okf f) (hs : ¬ sharp f) : valid f = 0 := by
  have h1 := h.size
  have h2 : dirsOk f := h.dir
  have h3 : ¬ 60 < f.ps.length := by have := h.cnt; omega
  have h4 : partsOk f := fun i hi => by
    have hx : f.ps.getD i (0, 0, 0) = f.ps[i] := by simp [List.getD_eq_getElem?_getD, List.getElem?_eq_getElem hi]
    refine ⟨by rw [hx]; exact h.edge _ (List.getElem_mem hi), fun h0 => ?_⟩
    have hy : f.ps.getD (i - 1) (0, 0, 0) = f.ps[i - 1] := by simp [List.getD_eq_getElem?_getD, List.getElem?_eq_getElem (show i - 1 < f.ps.length by omega)]
    rw [hx, hy]
    exact (List.pairwise_iff_getElem.1 h.sorted) (i - 1) i (by omega) hi (by omega)
  unfold valid
  simp [h1, h2, h3, h4, hs]
def spinF (f : Fld) (k : Int) : Fld := { f with ds := f.ds.map fun d => (d + k) % 8 }
theorem spin_dir {f : Fld} (h : Okf f) (k x y : Int) (x0 : 0 ≤ x) (x1 : x < f.W) (y0 : 0 ≤ y) (y1 : y < f.H) : (spinF f k).dir x y = (f.dir x y + k) % 8 := by
  obtain ⟨i0, i1, i2, i3, i4⟩ := idx_bd h.w1 h.w2 h.h2 x0 x1 y0 y1
  have hl := h.len
  have hk : (y * f.W + x).toNat < f.ds.length := by omega
  unfold Fld.dir spinF
  simp only [List.getD_eq_getElem?_getD, List.getElem?_map, List.getElem?_eq_getElem hk, Option.map_some, Option.getD_some]
theorem turnN_cong {a b : Int} (h : ∃ q : Int, a = b + 8 * q) : turnN a = turnN b := by
  obtain ⟨q, rfl⟩ := h
  unfold turnN
  have : (b + 8 * q) % 8 = b % 8 := by omega
  rw [this]
theorem spin_trn {f : Fld} (h : Okf f) (k : Int) (e : Edg) (he : isE f.W f.H e = true) : (spinF f k).trn e = f.trn e := by
  unfold isE at he
  rw [decide_eq_true_eq] at he
  unfold Fld.trn Fld.bend
  rw [spin_dir h k _ _ (by omega) (by omega) (by omega) (by omega), spin_dir h k _ _ (by omega) (by omega) (by omega) (by omega)]
  show turnN (_ + if e ∈ f.ps then 4 else 0) = _
  apply turnN_cong
  generalize f.dir (e.1 + 1 - e.2.2) (e.2.1 + e.2.2) = a
  generalize f.dir e.1 e.2.1 = b
  generalize (if e ∈ f.ps then (4 : Int) else 0) = p
  exact ⟨(b + k) / 8 - (a + k) / 8, by omega⟩
theorem spin_okf {f : Fld} (h : Okf f) (k : Int) : Okf (spinF f k) := by
  refine ⟨h.w1, h.w2, h.h1, h.h2, by rw [show (spinF f k).ds.length = f.ds.length by simp [spinF]]; exact h.len, fun d hd => ?_, h.cnt, h.edge, h.sorted⟩
  unfold spinF at hd
  simp only [List.mem_map] at hd
  obtain ⟨z, _, rfl⟩ := hd
  omega
theorem valid_spin {f : Fld} (h : valid f = 0) (k : Int) : valid (spinF f k) = 0 := by
  have ok := okf_of_valid h
  refine valid_of_okf (spin_okf ok k) ?_
  rintro ⟨e, he, h4⟩
  have he' : e ∈ edgesP f.W f.H f.H.toNat := he
  rw [spin_trn ok k e (mem_edgesP.1 he')] at h4
  exact notsharp_of_valid h ⟨e, he', h4⟩
theorem stp_spin {f : Fld} (h : valid f = 0) (k : Int) : stp_ (spinF f k) = stp_ f := by
  have ok := okf_of_valid h
  exact mxl_same (fun e => Iff.rfl) fun e he => by rw [spin_trn ok k e (mem_edgesP.1 he)]
def zeroF : Fld := ⟨0, 0, [], []⟩
/-- A field with the error that it has. -/
def fin (f : Fld) : Fld := if valid f = 0 then f else zeroF
def spinR (f : Fld) (k : Int) : Fld × Int := if valid f ≠ 0 then (zeroF, valid f) else (spinF f k, 0)
end Go.Proofs.Ytahmdnboeenfkaa
