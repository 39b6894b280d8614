/- Plain laws: which whorls a field has, and when an index is odd. No program stands here. -/
import Derived.Test.YtahmdnboeenfkaaPl
namespace Go.Proofs.Ytahmdnboeenfkaa

def wh1 (f : Fld) (x y : Int) : List Edg := if f.rnd x y = 0 then [] else [(x, y, (f.rnd x y).tdiv 4)]
def whR (f : Fld) (y : Int) (n : Nat) : List Edg := (List.range n).flatMap fun (x : Nat) => wh1 f x y
def whF (f : Fld) (n : Nat) : List Edg := (List.range n).flatMap fun (y : Nat) => whR f y (f.W - 1).toNat
def whorls (f : Fld) : List Edg := if valid f = 0 then whF f (f.H - 1).toNat else []

theorem whR_succ (f : Fld) (y : Int) (n : Nat) : whR f y (n + 1) = whR f y n ++ wh1 f n y := by
  unfold whR; rw [List.range_succ, List.flatMap_append]; simp
theorem whF_succ (f : Fld) (n : Nat) : whF f (n + 1) = whF f n ++ whR f n (f.W - 1).toNat := by
  unfold whF; rw [List.range_succ, List.flatMap_append]; simp
theorem whR_le (f : Fld) (y : Int) (n : Nat) : (whR f y n).length ≤ n := by
  induction n with
  | zero => simp [whR]
  | succ n ih =>
    rw [whR_succ, List.length_append]
    have : (wh1 f n y).length ≤ 1 := by unfold wh1; split <;> simp
    omega
theorem whF_le (f : Fld) (n : Nat) (h : f.W ≤ 12) : (whF f n).length ≤ 12 * n := by
  induction n with
  | zero => simp [whF]
  | succ n ih => rw [whF_succ, List.length_append]; have := whR_le f n (f.W - 1).toNat; omega

theorem turnN_mod (d : Int) : ∃ q, turnN d = d - 8 * q := by
  refine ⟨if d % 8 > 4 then d / 8 + 1 else d / 8, ?_⟩
  unfold turnN
  split <;> omega
theorem rnd_par (f : Fld) (x y : Int) : ∃ q : Int, f.rnd x y = 8 * q + 4 * ((if (x, y, 0) ∈ f.ps then (1 : Int) else 0) + (if (x + 1, y, 1) ∈ f.ps then (1 : Int) else 0) - (if (x, y + 1, 0) ∈ f.ps then (1 : Int) else 0) - (if (x, y, 1) ∈ f.ps then (1 : Int) else 0)) := by
  unfold Fld.rnd Fld.trn
  obtain ⟨q0, h0⟩ := turnN_mod (f.bend (x, y, 0) + if (x, y, 0) ∈ f.ps then 4 else 0)
  obtain ⟨q1, h1⟩ := turnN_mod (f.bend (x + 1, y, 1) + if (x + 1, y, 1) ∈ f.ps then 4 else 0)
  obtain ⟨q2, h2⟩ := turnN_mod (f.bend (x, y + 1, 0) + if (x, y + 1, 0) ∈ f.ps then 4 else 0)
  obtain ⟨q3, h3⟩ := turnN_mod (f.bend (x, y, 1) + if (x, y, 1) ∈ f.ps then 4 else 0)
  rw [h0, h1, h2, h3]
  have b : f.bend (x, y, 0) + f.bend (x + 1, y, 1) - f.bend (x, y + 1, 0) - f.bend (x, y, 1) = 0 := by
    unfold Fld.bend
    simp only [show x + 1 + 1 - 1 = x + 1 by omega, show x + 1 - 1 = x by omega, show x + 1 - 0 = x + 1 by omega, show y + 0 = y by omega, show y + 1 + 0 = y + 1 by omega]
    omega
  refine ⟨q2 + q3 - q0 - q1, ?_⟩
  repeat' split
  all_goals omega
theorem rnd_four (f : Fld) (x y : Int) : f.rnd x y = 4 * (f.rnd x y).tdiv 4 := by
  obtain ⟨q, h⟩ := rnd_par f x y
  obtain ⟨m, hm⟩ : ∃ m, f.rnd x y = 4 * m := by
    refine ⟨2 * q + ((if (x, y, 0) ∈ f.ps then (1 : Int) else 0) + (if (x + 1, y, 1) ∈ f.ps then (1 : Int) else 0) - (if (x, y + 1, 0) ∈ f.ps then (1 : Int) else 0) - (if (x, y, 1) ∈ f.ps then (1 : Int) else 0)), ?_⟩
    rw [h]; omega
  rw [hm, Int.mul_tdiv_cancel_left _ (by omega)]
theorem rnd_zero (f : Fld) (x y : Int) : (f.rnd x y).tdiv 4 = 0 ↔ f.rnd x y = 0 := by have := rnd_four f x y; omega

def lies (x y : Int) (p : Edg) : Bool := decide ((p.2.2 = 0 ∧ p.1 = x ∧ (p.2.1 = y ∨ p.2.1 = y + 1)) ∨ (p.2.2 = 1 ∧ p.2.1 = y ∧ (p.1 = x ∨ p.1 = x + 1)))
def oddP (x y : Int) (l : List Edg) : Bool := l.foldl (fun b p => b != lies x y p) false
theorem oddP_snoc (x y : Int) (l : List Edg) (p : Edg) : oddP x y (l ++ [p]) = (oddP x y l != lies x y p) := by simp [oddP]
def has1 (e : Edg) (l : List Edg) : Int := if e ∈ l then 1 else 0
theorem has1_snoc (e p : Edg) (l : List Edg) (h : p ∉ l) : has1 e (l ++ [p]) = has1 e l + if e = p then 1 else 0 := by
  unfold has1
  by_cases h1 : e = p
  · subst h1; simp [h]
  · by_cases h2 : e ∈ l <;> simp [h1, h2]
theorem rev_ind {P : List Edg → Prop} (h0 : P []) (h1 : ∀ l p, P l → P (l ++ [p])) (l : List Edg) : P l := by
  have : ∀ l : List Edg, P l.reverse := by
    intro l
    induction l with
    | nil => exact h0
    | cons a l ih => rw [List.reverse_cons]; exact h1 _ _ ih
  have := this l.reverse
  rwa [List.reverse_reverse] at this
theorem oddP_par (x y : Int) (l : List Edg) (h : l.Nodup) : oddP x y l = decide ((has1 (x, y, 0) l + has1 (x + 1, y, 1) l + has1 (x, y + 1, 0) l + has1 (x, y, 1) l) % 2 = 1) := by
  induction l using rev_ind with
  | h0 => simp [oddP, has1]
  | h1 l p ih =>
    have hn := List.nodup_append.1 h
    have hp : p ∉ l := fun hm => hn.2.2 p hm p (by simp) rfl
    rw [oddP_snoc, ih hn.1, has1_snoc _ _ _ hp, has1_snoc _ _ _ hp, has1_snoc _ _ _ hp, has1_snoc _ _ _ hp]
    obtain ⟨p0, p1, p2⟩ := p
    generalize has1 (x, y, 0) l = a0
    generalize has1 (x + 1, y, 1) l = a1
    generalize has1 (x, y + 1, 0) l = a2
    generalize has1 (x, y, 1) l = a3
    have hl : lies x y (p0, p1, p2) = decide (((if ((x, y, 0) : Edg) = (p0, p1, p2) then (1 : Int) else 0) + (if ((x + 1, y, 1) : Edg) = (p0, p1, p2) then (1 : Int) else 0) + (if ((x, y + 1, 0) : Edg) = (p0, p1, p2) then (1 : Int) else 0) + (if ((x, y, 1) : Edg) = (p0, p1, p2) then (1 : Int) else 0)) = 1) := by
      unfold lies
      rw [decide_eq_decide]
      simp only [Prod.mk.injEq]
      repeat' split
      all_goals omega
    have hb : ((if ((x, y, 0) : Edg) = (p0, p1, p2) then (1 : Int) else 0) + (if ((x + 1, y, 1) : Edg) = (p0, p1, p2) then (1 : Int) else 0) + (if ((x, y + 1, 0) : Edg) = (p0, p1, p2) then (1 : Int) else 0) + (if ((x, y, 1) : Edg) = (p0, p1, p2) then (1 : Int) else 0)) = 0 ∨ ((if ((x, y, 0) : Edg) = (p0, p1, p2) then (1 : Int) else 0) + (if ((x + 1, y, 1) : Edg) = (p0, p1, p2) then (1 : Int) else 0) + (if ((x, y + 1, 0) : Edg) = (p0, p1, p2) then (1 : Int) else 0) + (if ((x, y, 1) : Edg) = (p0, p1, p2) then (1 : Int) else 0)) = 1 := by
      simp only [Prod.mk.injEq]
      repeat' split
      all_goals omega
    rw [hl]
    generalize (if ((x, y, 0) : Edg) = (p0, p1, p2) then (1 : Int) else 0) = c0 at hb ⊢
    generalize (if ((x + 1, y, 1) : Edg) = (p0, p1, p2) then (1 : Int) else 0) = c1 at hb ⊢
    generalize (if ((x, y + 1, 0) : Edg) = (p0, p1, p2) then (1 : Int) else 0) = c2 at hb ⊢
    generalize (if ((x, y, 1) : Edg) = (p0, p1, p2) then (1 : Int) else 0) = c3 at hb ⊢
    rw [Bool.eq_iff_iff, bne_iff_ne, ne_eq, Bool.eq_iff_iff]
    simp only [decide_eq_true_eq]
    omega
theorem tmod_two (m : Int) : (m.tmod 2 ≠ 0) ↔ m % 2 = 1 := by
  rcases Int.lt_or_le m 0 with h | h
  · obtain ⟨k, rfl⟩ : ∃ k : Int, m = -k := ⟨-m, by omega⟩
    rw [Int.neg_tmod, Int.tmod_eq_emod_of_nonneg (by omega)]
    omega
  · rw [Int.tmod_eq_emod_of_nonneg h]; omega
theorem odd_rnd (f : Fld) (x y : Int) (h : f.ps.Nodup) : oddP x y f.ps = decide (((f.rnd x y).tdiv 4).tmod 2 ≠ 0) := by
  rw [oddP_par x y f.ps h, decide_eq_decide, tmod_two]
  have h4 := rnd_four f x y
  obtain ⟨q, hq⟩ := rnd_par f x y
  change f.rnd x y = 8 * q + 4 * (has1 (x, y, 0) f.ps + has1 (x + 1, y, 1) f.ps - has1 (x, y + 1, 0) f.ps - has1 (x, y, 1) f.ps) at hq
  omega
theorem nodup_of_sorted {l : List Edg} (h : l.Pairwise ltE) : l.Nodup := by
  unfold List.Nodup
  refine List.Pairwise.imp ?_ h
  intro a b hab e
  subst e
  exact ltE_irrefl a hab

/-- What the law asks of each whorl. -/
theorem whorls_get {f : Fld} {k : Nat} {e : Edg} (h : (whorls f)[k]? = some e) : valid f = 0 ∧ isS f.W f.H e.1 e.2.1 = true ∧ e.2.2 = (f.rnd e.1 e.2.1).tdiv 4 ∧ e.2.2 ≠ 0 := by
  have hm := List.mem_of_getElem? h
  unfold whorls at hm
  split at hm
  · rename_i hv
    unfold whF whR wh1 at hm
    simp only [List.mem_flatMap, List.mem_range] at hm
    obtain ⟨y, hy, x, hx, he⟩ := hm
    split at he
    · simp at he
    · rename_i hr
      simp at he
      subst he
      refine ⟨hv, ?_, rfl, fun h0 => hr ((rnd_zero f x y).1 h0)⟩
      unfold isS; rw [decide_eq_true_eq]; simp only; omega
  · simp at hm
end Go.Proofs.Ytahmdnboeenfkaa
