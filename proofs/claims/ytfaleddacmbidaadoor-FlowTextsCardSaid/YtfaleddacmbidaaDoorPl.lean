/- The plain laws of fields: which fields are valid, what turns along an edge. No program stands here. -/
import Derived.KernelRfl
namespace Go.Proofs.YtfaleddacmbidaaDoor

/-- An edge: x, y, up. -/
abbrev Edg := Int × Int × Int

/-- A field as plain data. -/
structure Fld where
  W : Int
  H : Int
  ds : List Int
  ps : List Edg

def isE (W H : Int) (e : Edg) : Bool :=
  decide ((e.2.2 = 0 ∧ 0 ≤ e.1 ∧ e.1 < W - 1 ∧ 0 ≤ e.2.1 ∧ e.2.1 < H) ∨ (e.2.2 = 1 ∧ 0 ≤ e.1 ∧ e.1 < W ∧ 0 ≤ e.2.1 ∧ e.2.1 < H - 1))

def isP (W H x y : Int) : Bool := decide (0 ≤ x ∧ x < W ∧ 0 ≤ y ∧ y < H)
def isS (W H x y : Int) : Bool := decide (0 ≤ x ∧ x < W - 1 ∧ 0 ≤ y ∧ y < H - 1)

def cmpI (a b : Int) : Int := if a < b then -1 else if b < a then 1 else 0
def or0 : List Int → Int
  | [] => 0
  | a :: l => if a = 0 then or0 l else a
def cmpE (a b : Edg) : Int := or0 [cmpI a.1 b.1, cmpI a.2.1 b.2.1, cmpI a.2.2 b.2.2]
def ltE (a b : Edg) : Prop := a.1 < b.1 ∨ (a.1 = b.1 ∧ (a.2.1 < b.2.1 ∨ (a.2.1 = b.2.1 ∧ a.2.2 < b.2.2)))
instance (a b : Edg) : Decidable (ltE a b) := by unfold ltE; infer_instance

theorem cmpE_neg (a b : Edg) : cmpE a b < 0 ↔ ltE a b := by
  unfold cmpE ltE cmpI
  simp only [or0]
  omega
theorem cmpE_zero (a b : Edg) : cmpE a b = 0 ↔ a = b := by
  obtain ⟨a1, a2, a3⟩ := a
  obtain ⟨b1, b2, b3⟩ := b
  unfold cmpE cmpI
  simp only [or0, Prod.mk.injEq]
  omega
theorem cmpE_bd (a b : Edg) : -1 ≤ cmpE a b ∧ cmpE a b ≤ 1 := by
  unfold cmpE cmpI
  simp only [or0]
  omega
theorem ltE_irrefl (a : Edg) : ¬ ltE a a := by unfold ltE; omega
theorem ltE_trans {a b c : Edg} (h : ltE a b) (k : ltE b c) : ltE a c := by unfold ltE at *; omega
theorem ltE_asymm {a b : Edg} (h : ltE a b) : ¬ ltE b a := fun k => ltE_irrefl _ (ltE_trans h k)
theorem ltE_total (a b : Edg) : ltE a b ∨ a = b ∨ ltE b a := by
  obtain ⟨a1, a2, a3⟩ := a
  obtain ⟨b1, b2, b3⟩ := b
  unfold ltE
  simp only [Prod.mk.injEq]
  omega

def Fld.dir (f : Fld) (x y : Int) : Int := f.ds.getD (y * f.W + x).toNat 0
def turnN (d : Int) : Int := if d % 8 > 4 then d % 8 - 8 else d % 8
def Fld.bend (f : Fld) (e : Edg) : Int := f.dir (e.1 + 1 - e.2.2) (e.2.1 + e.2.2) - f.dir e.1 e.2.1
def Fld.trn (f : Fld) (e : Edg) : Int := turnN (f.bend e + if e ∈ f.ps then 4 else 0)
theorem turnN_bd (d : Int) : -3 ≤ turnN d ∧ turnN d ≤ 4 := by unfold turnN; omega
theorem trn_bd (f : Fld) (e : Edg) : -3 ≤ f.trn e ∧ f.trn e ≤ 4 := turnN_bd _

/-- All that Validate asks ahead of the last look, that no turn is sharp. -/
structure Okf (f : Fld) : Prop where
  w1 : 1 ≤ f.W
  w2 : f.W ≤ 12
  h1 : 1 ≤ f.H
  h2 : f.H ≤ 12
  len : (f.ds.length : Int) = f.W * f.H
  dir : ∀ d ∈ f.ds, 0 ≤ d ∧ d ≤ 7
  cnt : f.ps.length ≤ 60
  edge : ∀ e ∈ f.ps, isE f.W f.H e = true
  sorted : f.ps.Pairwise ltE

def sizeOk (f : Fld) : Prop := 1 ≤ f.W ∧ f.W ≤ 12 ∧ 1 ≤ f.H ∧ f.H ≤ 12 ∧ (f.ds.length : Int) = f.W * f.H
instance (f : Fld) : Decidable (sizeOk f) := by unfold sizeOk; infer_instance
def dirsOk (f : Fld) : Prop := ∀ d ∈ f.ds, 0 ≤ d ∧ d ≤ 7
instance (f : Fld) : Decidable (dirsOk f) := by unfold dirsOk; infer_instance
def partOk (f : Fld) (i : Nat) : Prop := isE f.W f.H (f.ps.getD i (0, 0, 0)) = true ∧ (0 < i → ltE (f.ps.getD (i - 1) (0, 0, 0)) (f.ps.getD i (0, 0, 0)))
instance (f : Fld) (i : Nat) : Decidable (partOk f i) := by unfold partOk; infer_instance
def partsOk (f : Fld) : Prop := ∀ i, i < f.ps.length → partOk f i
instance (f : Fld) : Decidable (partsOk f) := by unfold partsOk; infer_instance

/-- The edges in the program's order, and in the reference's. -/
def ups (W H x y : Int) (n : Nat) : List Edg := ((List.range n).map fun (u : Nat) => (x, y, (u : Int))).filter fun e => isE W H e
def rowP (W H : Int) (y : Int) (n : Nat) : List Edg := (List.range n).flatMap fun (x : Nat) => ups W H x y 2
def edgesP (W H : Int) (n : Nat) : List Edg := (List.range n).flatMap fun (y : Nat) => rowP W H y W.toNat
def colR (W H : Int) (x : Int) (n : Nat) : List Edg := (List.range n).flatMap fun (y : Nat) => ups W H x y 2
def edgesR (W H : Int) (n : Nat) : List Edg := (List.range n).flatMap fun (x : Nat) => colR W H x H.toNat

def sharp (f : Fld) : Prop := ∃ e ∈ edgesP f.W f.H f.H.toNat, f.trn e = 4
instance (f : Fld) : Decidable (sharp f) := by unfold sharp; infer_instance

/-- The error of a field, as a number. -/
def valid (f : Fld) : Int :=
  if ¬ sizeOk f then 1 else if ¬ dirsOk f then 1 else if 60 < f.ps.length then 4 else if ¬ partsOk f then 1 else if sharp f then 9 else 0

theorem mem_ups {W H x y : Int} {e : Edg} : e ∈ ups W H x y 2 ↔ e.1 = x ∧ e.2.1 = y ∧ isE W H e = true := by
  obtain ⟨a, b, c⟩ := e
  unfold ups
  simp only [List.mem_filter, List.mem_map, List.mem_range, Prod.mk.injEq]
  constructor
  · rintro ⟨⟨u, hu, rfl, rfl, rfl⟩, h⟩
    exact ⟨rfl, rfl, h⟩
  · rintro ⟨rfl, rfl, h⟩
    refine ⟨⟨c.toNat, ?_, rfl, rfl, ?_⟩, h⟩
    all_goals (simp only [isE, decide_eq_true_eq] at h; omega)
theorem mem_edgesP {W H : Int} {e : Edg} : e ∈ edgesP W H H.toNat ↔ isE W H e = true := by
  unfold edgesP rowP
  simp only [List.mem_flatMap, List.mem_range, mem_ups]
  constructor
  · rintro ⟨y, _, x, _, _, _, h⟩; exact h
  · intro h
    refine ⟨e.2.1.toNat, ?_, e.1.toNat, ?_, ?_, ?_, h⟩
    all_goals (simp only [isE, decide_eq_true_eq] at h; omega)
theorem mem_edgesR {W H : Int} {e : Edg} : e ∈ edgesR W H W.toNat ↔ isE W H e = true := by
  unfold edgesR colR
  simp only [List.mem_flatMap, List.mem_range, mem_ups]
  constructor
  · rintro ⟨y, _, x, _, _, _, h⟩; exact h
  · intro h
    refine ⟨e.1.toNat, ?_, e.2.1.toNat, ?_, ?_, ?_, h⟩
    all_goals (simp only [isE, decide_eq_true_eq] at h; omega)

theorem sorted_of_parts {ps : List Edg} (h : ∀ i, i < ps.length → 0 < i → ltE (ps.getD (i - 1) (0, 0, 0)) (ps.getD i (0, 0, 0))) : ps.Pairwise ltE := by
  rw [List.pairwise_iff_getElem]
  intro i j hi hj hij
  induction j with
  | zero => omega
  | succ j ih =>
    have hs := h (j + 1) hj (by omega)
    simp only [Nat.add_sub_cancel, List.getD_eq_getElem?_getD, List.getElem?_eq_getElem hj, List.getElem?_eq_getElem (show j < ps.length by omega), Option.getD_some] at hs
    rcases Nat.lt_or_ge i j with hlt | hge
    · exact ltE_trans (ih (by omega) hlt) hs
    · obtain rfl : i = j := by omega
      exact hs
theorem okf_of {f : Fld} (h1 : sizeOk f) (h2 : dirsOk f) (h3 : ¬ 60 < f.ps.length) (h4 : partsOk f) : Okf f := by
  obtain ⟨a, b, c, d, e⟩ := h1
  refine ⟨a, b, c, d, e, h2, by omega, ?_, sorted_of_parts fun i hi h0 => (h4 i hi).2 h0⟩
  intro x hx
  obtain ⟨i, hi, rfl⟩ := List.getElem_of_mem hx
  have := (h4 i hi).1
  simpa [List.getD_eq_getElem?_getD, List.getElem?_eq_getElem hi] using this
theorem okf_of_valid {f : Fld} (h : valid f = 0) : Okf f := by
  unfold valid at h
  by_cases h1 : sizeOk f
  · by_cases h2 : dirsOk f
    · by_cases h3 : 60 < f.ps.length
      · simp [h1, h2, h3] at h
      · by_cases h4 : partsOk f
        · exact okf_of h1 h2 h3 h4
        · simp [h1, h2, h3, h4] at h
    · simp [h1, h2] at h
  · simp [h1] at h
theorem notsharp_of_valid {f : Fld} (h : valid f = 0) : ¬ sharp f := by
  intro hs
  have o := okf_of_valid h
  unfold valid at h
  by_cases h1 : sizeOk f
  · by_cases h2 : dirsOk f
    · by_cases h3 : 60 < f.ps.length
      · simp [h1, h2, h3] at h
      · by_cases h4 : partsOk f <;> simp [h1, h2, h3, h4, hs] at h
    · simp [h1, h2] at h
  · simp [h1] at h

theorem idx_bd {W H x y : Int} (h1 : 1 ≤ W) (h2 : W ≤ 12) (h4 : H ≤ 12) (x0 : 0 ≤ x) (x1 : x < W) (y0 : 0 ≤ y) (y1 : y < H) :
    0 ≤ y * W ∧ y * W ≤ 144 ∧ 0 ≤ y * W + x ∧ y * W + x < W * H ∧ y * W + x ≤ 144 := by
  have a : 0 ≤ y * W := Int.mul_nonneg y0 (by omega)
  have b : y * W ≤ (H - 1) * W := Int.mul_le_mul_of_nonneg_right (by omega) (by omega)
  have c : (H - 1) * W = W * H - W := by rw [Int.sub_mul, Int.one_mul, Int.mul_comm]
  have d : W * H ≤ 12 * 12 := by
    have e : W * H ≤ W * 12 := Int.mul_le_mul_of_nonneg_left h4 (by omega)
    omega
  omega

theorem dir_bd {f : Fld} (h : Okf f) (x y : Int) (x0 : 0 ≤ x) (x1 : x < f.W) (y0 : 0 ≤ y) (y1 : y < f.H) : 0 ≤ f.dir x y ∧ f.dir x y ≤ 7 := by
  obtain ⟨i0, i1, i2, i3, i4⟩ := idx_bd h.w1 h.w2 h.h2 x0 x1 y0 y1
  have hl := h.len
  have hk : (y * f.W + x).toNat < f.ds.length := by omega
  unfold Fld.dir
  rw [List.getD_eq_getElem?_getD, List.getElem?_eq_getElem hk]
  exact h.dir _ (List.getElem_mem hk)
theorem Okf.size {f : Fld} (h : Okf f) : sizeOk f := ⟨h.w1, h.w2, h.h1, h.h2, h.len⟩

/-- What turns around a square, counterclockwise. -/
def Fld.rnd (f : Fld) (x y : Int) : Int := f.trn (x, y, 0) + f.trn (x + 1, y, 1) - f.trn (x, y + 1, 0) - f.trn (x, y, 1)
/-- Index's two results. -/
def indexR (f : Fld) (x y : Int) : Int × Int := if valid f ≠ 0 then (0, valid f) else if isS f.W f.H x y = false then (0, 5) else ((f.rnd x y).tdiv 4, 0)
/-- Turning's two results. -/
def turnR (f : Fld) (e : Edg) : Int × Int := if valid f ≠ 0 then (0, valid f) else if isE f.W f.H e = false then (0, 5) else (f.trn e, 0)

/-- How many edges come before e. -/
def lowE (ps : List Edg) (e : Edg) : Nat := (ps.filter fun x => decide (ltE x e)).length
theorem lowE_of {ps : List Edg} {e : Edg} {i : Nat} (hi : i ≤ ps.length) (h1 : ∀ k x, k < i → ps[k]? = some x → ltE x e) (h2 : ∀ k x, i ≤ k → ps[k]? = some x → ¬ ltE x e) : lowE ps e = i := by
  unfold lowE
  rw [← List.take_append_drop i ps, List.filter_append, List.length_append]
  have a : (ps.take i).filter (fun x => decide (ltE x e)) = ps.take i := by
    rw [List.filter_eq_self]
    intro x hx
    obtain ⟨k, hk, rfl⟩ := List.getElem_of_mem hx
    rw [List.length_take] at hk
    have := h1 k ps[k] (by omega) (List.getElem?_eq_getElem (by omega))
    simpa using this
  have b : (ps.drop i).filter (fun x => decide (ltE x e)) = [] := by
    rw [List.filter_eq_nil_iff]
    intro x hx
    obtain ⟨k, hk, rfl⟩ := List.getElem_of_mem hx
    rw [List.length_drop] at hk
    have := h2 (i + k) ps[i + k] (by omega) (List.getElem?_eq_getElem (by omega))
    simpa using this
  rw [a, b, List.length_take]
  simp; omega
theorem mem_iff_low {ps : List Edg} {e : Edg} (hs : ps.Pairwise ltE) : e ∈ ps ↔ ps[lowE ps e]? = some e := by
  constructor
  · intro h
    obtain ⟨i, hi, rfl⟩ := List.getElem_of_mem h
    rw [lowE_of (i := i) (by omega), List.getElem?_eq_getElem hi]
    · intro k x hk hx
      have hk' : k < ps.length := by omega
      rw [List.getElem?_eq_getElem hk'] at hx
      obtain rfl := Option.some.inj hx
      exact (List.pairwise_iff_getElem.1 hs) k i hk' hi hk
    · intro k x hk hx hlt
      have hk' : k < ps.length := (List.getElem?_eq_some_iff.1 hx).1
      rw [List.getElem?_eq_getElem hk'] at hx
      obtain rfl := Option.some.inj hx
      rcases Nat.lt_or_ge i k with h | h
      · exact ltE_asymm hlt ((List.pairwise_iff_getElem.1 hs) i k hi hk' h)
      · obtain rfl : i = k := by omega
        exact ltE_irrefl _ hlt
  · intro h; exact List.mem_of_getElem? h
theorem low_le (ps : List Edg) (e : Edg) : lowE ps e ≤ ps.length := List.length_filter_le _ _
end Go.Proofs.YtfaleddacmbidaaDoor
