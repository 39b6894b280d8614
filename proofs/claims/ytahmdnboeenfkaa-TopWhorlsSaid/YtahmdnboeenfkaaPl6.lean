/- Plain laws: what turns along the rim of a region. No program stands here. -/
import Derived.Test.YtahmdnboeenfkaaPl3
import Derived.Test.YtahmdnboeenfkaaPl2
namespace Go.Proofs.Ytahmdnboeenfkaa

def lsum {α : Type} (g : α → Int) : List α → Int
  | [] => 0
  | a :: l => g a + lsum g l
section
variable {α β : Type}
theorem lsum_append (g : α → Int) (l m : List α) : lsum g (l ++ m) = lsum g l + lsum g m := by
  induction l with
  | nil => simp [lsum]
  | cons a l ih => simp only [List.cons_append, lsum, ih]; omega
theorem lsum_add (g h : α → Int) (l : List α) : lsum (fun a => g a + h a) l = lsum g l + lsum h l := by
  induction l with
  | nil => rfl
  | cons a l ih => simp only [lsum, ih]; omega
theorem lsum_sub (g h : α → Int) (l : List α) : lsum (fun a => g a - h a) l = lsum g l - lsum h l := by
  induction l with
  | nil => rfl
  | cons a l ih => simp only [lsum, ih]; omega
theorem lsum_congr {g h : α → Int} {l : List α} (e : ∀ a ∈ l, g a = h a) : lsum g l = lsum h l := by
  induction l with
  | nil => rfl
  | cons a l ih => simp only [lsum]; rw [e a (by simp), ih fun b hb => e b (by simp [hb])]
theorem lsum_zero {g : α → Int} {l : List α} (e : ∀ a ∈ l, g a = 0) : lsum g l = 0 := by
  induction l with
  | nil => rfl
  | cons a l ih => simp only [lsum]; rw [e a (by simp), ih fun b hb => e b (by simp [hb])]; rfl
theorem lsum_take_succ (g : α → Int) {l : List α} {k : Nat} {a : α} (h : l[k]? = some a) : lsum g (l.take (k + 1)) = lsum g (l.take k) + g a := by
  obtain ⟨hk, rfl⟩ := List.getElem?_eq_some_iff.1 h
  rw [List.take_succ_eq_append_getElem hk, lsum_append]; simp [lsum]
theorem lsum_bd {g : α → Int} {b : Int} (h : ∀ a, -b ≤ g a ∧ g a ≤ b) (l : List α) : -(b * l.length) ≤ lsum g l ∧ lsum g l ≤ b * l.length := by
  induction l with
  | nil => simp [lsum]
  | cons a l ih =>
    have := h a
    simp only [lsum, List.length_cons, Int.natCast_add, Int.mul_add, Int.natCast_one, Int.mul_one]
    omega
/-- What turns the other way the other way round adds up to nothing. -/
theorem lsum_anti (t : α → α → Int) (h : ∀ a b, t a b = -t b a) (l : List α) : lsum (fun a => lsum (t a) l) l = 0 := by
  induction l with
  | nil => rfl
  | cons a l ih =>
    have h0 : t a a = 0 := by have := h a a; omega
    have h1 : lsum (fun b => lsum (t b) (a :: l)) l = lsum (fun b => t b a) l + lsum (fun b => lsum (t b) l) l := by
      rw [← lsum_add]; rfl
    show t a a + lsum (t a) l + lsum (fun b => lsum (t b) (a :: l)) l = 0
    rw [h1, ih, h0]
    have h2 : lsum (fun b => t b a) l = -lsum (t a) l := by
      have : lsum (fun b => t b a + t a b) l = 0 := lsum_zero fun b _ => by have := h b a; omega
      rw [lsum_add] at this
      have e : lsum (fun b => t a b) l = lsum (t a) l := rfl
      omega
    omega
theorem lsum_one' (g : α → Int) {l : List α} (hl : l.Nodup) (b : α) [∀ a : α, Decidable (a = b)] : (b ∈ l → lsum (fun a => if a = b then g a else 0) l = g b) ∧ (b ∉ l → lsum (fun a => if a = b then g a else 0) l = 0) := by
  induction l with
  | nil => exact ⟨fun h => by simp at h, fun _ => rfl⟩
  | cons a l ih =>
    have hn := List.nodup_cons.1 hl
    obtain ⟨i1, i2⟩ := ih hn.2
    simp only [lsum]
    by_cases e : a = b
    · subst e
      refine ⟨fun _ => ?_, fun h => absurd (by simp) h⟩
      rw [i2 hn.1, if_pos rfl]; omega
    · rw [if_neg e]
      have : (b ∈ a :: l) ↔ b ∈ l := by simp [Ne.symm e]
      rw [this]
      exact ⟨fun h => by rw [i1 h]; omega, fun h => by rw [i2 h]; rfl⟩
/-- One member of a list in which nothing stands twice. -/
theorem lsum_one (g : α → Int) {l : List α} (hl : l.Nodup) (b : α) [∀ a : α, Decidable (a = b)] [Decidable (b ∈ l)] : lsum (fun a => if a = b then g a else 0) l = if b ∈ l then g b else 0 := by
  obtain ⟨i1, i2⟩ := lsum_one' g hl b
  by_cases h : b ∈ l
  · rw [i1 h, if_pos h]
  · rw [i2 h, if_neg h]
end

/-- The four sides of a square, with the square behind each and the sign. -/
def sideE (p : Plc) : List (Edg × Int) := [((p.1, p.2, 0), 1), ((p.1 + 1, p.2, 1), 1), ((p.1, p.2 + 1, 0), -1), ((p.1, p.2, 1), -1)]
def other (p : Plc) : List Plc := [(p.1, p.2 - 1), (p.1 + 1, p.2), (p.1, p.2 + 1), (p.1 - 1, p.2)]
def sideV (f : Fld) (l : List Plc) (p : Plc) (i : Nat) : Int :=
  if (other p).getD i (0, 0) ∈ l then 0 else ((sideE p).getD i ((0, 0, 0), 0)).2 * f.trn ((sideE p).getD i ((0, 0, 0), 0)).1
def rimN (f : Fld) (l : List Plc) (p : Plc) : Nat → Int
  | 0 => 0
  | n + 1 => rimN f l p n + sideV f l p n
def rimP (f : Fld) (l : List Plc) : Int := lsum (fun p => rimN f l p 4) l
def rnds (f : Fld) (l : List Plc) : Int := lsum (fun p => f.rnd p.1 p.2) l
def inP (f : Fld) (l : List Plc) : Int := lsum (fun p => (f.rnd p.1 p.2).tdiv 4) l

theorem inP_four (f : Fld) (l : List Plc) : rnds f l = 4 * inP f l := by
  unfold rnds inP
  induction l with
  | nil => rfl
  | cons a l ih => simp only [lsum, ih]; have := rnd_four f a.1 a.2; omega
/-- What turns from one square over to another one. -/
def over (f : Fld) (p q : Plc) : Int :=
  if q = (p.1, p.2 - 1) then f.trn (p.1, p.2, 0) else if q = (p.1 + 1, p.2) then f.trn (p.1 + 1, p.2, 1)
  else if q = (p.1, p.2 + 1) then -f.trn (p.1, p.2 + 1, 0) else if q = (p.1 - 1, p.2) then -f.trn (p.1, p.2, 1) else 0
theorem over_anti (f : Fld) (p q : Plc) : over f p q = -over f q p := by
  obtain ⟨p1, p2⟩ := p
  obtain ⟨q1, q2⟩ := q
  unfold over
  simp only [Prod.mk.injEq]
  by_cases h1 : q1 = p1 ∧ q2 = p2 - 1
  · obtain ⟨rfl, rfl⟩ := h1
    rw [if_pos (by omega), if_neg (by omega), if_neg (by omega), if_pos (by omega)]; simp
  · rw [if_neg h1]
    by_cases h2 : q1 = p1 + 1 ∧ q2 = p2
    · obtain ⟨rfl, rfl⟩ := h2
      rw [if_pos (by omega), if_neg (by omega), if_neg (by omega), if_neg (by omega), if_pos (by omega)]; simp
    · rw [if_neg h2]
      by_cases h3 : q1 = p1 ∧ q2 = p2 + 1
      · obtain ⟨rfl, rfl⟩ := h3
        rw [if_pos (by omega), if_pos (by omega)]
      · rw [if_neg h3]
        by_cases h4 : q1 = p1 - 1 ∧ q2 = p2
        · obtain ⟨rfl, rfl⟩ := h4
          rw [if_pos (by omega), if_neg (by omega), if_pos (by omega)]; simp
        · rw [if_neg h4, if_neg (by omega), if_neg (by omega), if_neg (by omega), if_neg (by omega)]; rfl
theorem ite_or (c d : Prop) [Decidable c] [Decidable d] (x : Int) (h : ¬(c ∧ d)) : (if c then x else 0) + (if d then x else 0) = if c ∨ d then x else 0 := by
  by_cases hc : c <;> by_cases hd : d <;> simp_all
theorem over_sum (f : Fld) (p : Plc) {l : List Plc} (hl : l.Nodup) : lsum (over f p) l =
    (if (p.1, p.2 - 1) ∈ l then f.trn (p.1, p.2, 0) else 0) + (if (p.1 + 1, p.2) ∈ l then f.trn (p.1 + 1, p.2, 1) else 0)
    - (if (p.1, p.2 + 1) ∈ l then f.trn (p.1, p.2 + 1, 0) else 0) - (if (p.1 - 1, p.2) ∈ l then f.trn (p.1, p.2, 1) else 0) := by
  rw [← lsum_one (fun _ => f.trn (p.1, p.2, 0)) hl, ← lsum_one (fun _ => f.trn (p.1 + 1, p.2, 1)) hl, ← lsum_one (fun _ => f.trn (p.1, p.2 + 1, 0)) hl, ← lsum_one (fun _ => f.trn (p.1, p.2, 1)) hl,
    ← lsum_add, ← lsum_sub, ← lsum_sub]
  refine lsum_congr fun q _ => ?_
  obtain ⟨p1, p2⟩ := p
  obtain ⟨q1, q2⟩ := q
  unfold over
  simp only [Prod.mk.injEq]
  repeat' split
  all_goals omega
theorem rimP_eq (f : Fld) {l : List Plc} (hl : l.Nodup) : rimP f l = rnds f l := by
  have h := lsum_anti (over f) (over_anti f) l
  have e : ∀ p : Plc, rimN f l p 4 = f.rnd p.1 p.2 - lsum (over f p) l := by
    intro p
    rw [over_sum f p hl]
    simp only [rimN, sideV, other, sideE, List.getD_cons_zero, List.getD_cons_succ, Fld.rnd]
    repeat' split
    all_goals omega
  unfold rimP rnds
  rw [lsum_congr fun p _ => e p, lsum_sub, h]; omega

/-- The reference's sum, edge by edge. -/
def edgeV (f : Fld) (l : List Plc) (e : Edg) : Int :=
  if e.2.2 = 1 then (if (e.1 - 1, e.2.1) ∈ l then f.trn e else 0) - (if (e.1, e.2.1) ∈ l then f.trn e else 0)
  else (if (e.1, e.2.1) ∈ l then f.trn e else 0) - (if (e.1, e.2.1 - 1) ∈ l then f.trn e else 0)
def rimR (f : Fld) (l : List Plc) (es : List Edg) : Int := lsum (edgeV f l) es

theorem edgesR_sub (W H : Int) (x y : Int) : (ups W H x y 2).Nodup := by
  unfold ups
  unfold List.Nodup
  refine List.Pairwise.filter _ ?_
  rw [List.pairwise_map]
  refine List.Pairwise.imp ?_ List.pairwise_lt_range
  intro a b hab e
  simp only [Prod.mk.injEq] at e
  omega
theorem nodup_flatMap {α : Type} (g : Nat → List α) (n : Nat) (h1 : ∀ i, (g i).Nodup) (h2 : ∀ i j a, i < j → a ∈ g i → a ∉ g j) : ((List.range n).flatMap g).Nodup := by
  induction n with
  | zero => simp
  | succ n ih =>
    rw [List.range_succ, List.flatMap_append]
    rw [List.nodup_append]
    refine ⟨ih, by simpa using h1 n, ?_⟩
    intro a ha b hb e
    subst e
    simp only [List.mem_flatMap, List.mem_range] at ha
    obtain ⟨i, hi, ha⟩ := ha
    exact h2 i n a hi ha (by simpa using hb)
theorem edgesR_nodup (W H : Int) (n : Nat) : (edgesR W H n).Nodup := by
  unfold edgesR
  refine nodup_flatMap _ n (fun x => ?_) (fun i j a hij ha hb => ?_)
  · unfold colR
    refine nodup_flatMap _ _ (fun y => edgesR_sub _ _ _ _) (fun i j a hij ha hb => ?_)
    have h1 := mem_ups.1 ha
    have h2 := mem_ups.1 hb
    omega
  · unfold colR at ha hb
    simp only [List.mem_flatMap, mem_ups] at ha hb
    obtain ⟨_, _, h1, _⟩ := ha
    obtain ⟨_, _, h2, _⟩ := hb
    omega
theorem one_edge (f : Fld) {es : List Edg} (hn : es.Nodup) (b : Edg) (hb : b ∈ es) : lsum (fun e => if e = b then f.trn e else 0) es = f.trn b := by
  rw [lsum_one _ hn, if_pos hb]
theorem mem_side {W H : Int} {p : Plc} (h : isS W H p.1 p.2 = true) : (p.1, p.2, 0) ∈ edgesR W H W.toNat ∧ (p.1 + 1, p.2, 1) ∈ edgesR W H W.toNat ∧ (p.1, p.2 + 1, 0) ∈ edgesR W H W.toNat ∧ (p.1, p.2, 1) ∈ edgesR W H W.toNat := by
  unfold isS at h
  rw [decide_eq_true_eq] at h
  refine ⟨mem_edgesR.2 ?_, mem_edgesR.2 ?_, mem_edgesR.2 ?_, mem_edgesR.2 ?_⟩
  all_goals (unfold isE; rw [decide_eq_true_eq]; simp; omega)
theorem edgeV_cons (f : Fld) (l : List Plc) (p : Plc) (hp : p ∉ l) (e : Edg) (he : e.2.2 = 0 ∨ e.2.2 = 1) :
    edgeV f (p :: l) e = edgeV f l e + ((if e = (p.1, p.2, 0) then f.trn e else 0) + (if e = (p.1 + 1, p.2, 1) then f.trn e else 0) - (if e = (p.1, p.2 + 1, 0) then f.trn e else 0) - (if e = (p.1, p.2, 1) then f.trn e else 0)) := by
  obtain ⟨e1, e2, e3⟩ := e
  obtain ⟨p1, p2⟩ := p
  simp only at he
  generalize ht : f.trn (e1, e2, e3) = t
  have hm : ∀ q : Plc, (if q ∈ (p1, p2) :: l then t else 0) = (if q ∈ l then t else 0) + if q = (p1, p2) then t else 0 := by
    intro q
    by_cases h : q = (p1, p2)
    · subst h; rw [if_pos (by simp), if_neg hp, if_pos rfl]; omega
    · rw [if_neg h]
      by_cases h2 : q ∈ l
      · rw [if_pos h2, if_pos (by simp [h2])]; omega
      · rw [if_neg h2, if_neg (by simp [h, h2])]; omega
  unfold edgeV
  simp only [ht, hm, Prod.mk.injEq]
  rcases he with rfl | rfl
  · have h01 : ((0 : Int) = 1) = False := by simp
    simp only [h01, and_false, if_false, and_true]
    generalize (if (e1, e2) ∈ l then t else 0) = A
    generalize (if (e1, e2 - 1) ∈ l then t else 0) = B
    repeat' split
    all_goals omega
  · have h01 : ((1 : Int) = 0) = False := by simp
    simp only [h01, and_false, if_true, if_false, and_true]
    generalize (if (e1, e2) ∈ l then t else 0) = A
    generalize (if (e1 - 1, e2) ∈ l then t else 0) = B
    repeat' split
    all_goals omega
theorem rimR_eq (f : Fld) {l : List Plc} (hl : l.Nodup) (hs : ∀ p ∈ l, isS f.W f.H p.1 p.2 = true) : rimR f l (edgesR f.W f.H f.W.toNat) = rnds f l := by
  induction l with
  | nil =>
    unfold rimR rnds
    exact lsum_zero fun e _ => by simp [edgeV]
  | cons p l ih =>
    have hn := List.nodup_cons.1 hl
    have ih' := ih hn.2 fun q hq => hs q (by simp [hq])
    unfold rimR at ih' ⊢
    rw [lsum_congr (h := fun e => edgeV f l e + ((if e = (p.1, p.2, 0) then f.trn e else 0) + (if e = (p.1 + 1, p.2, 1) then f.trn e else 0) - (if e = (p.1, p.2 + 1, 0) then f.trn e else 0) - (if e = (p.1, p.2, 1) then f.trn e else 0)))
      fun e he => edgeV_cons f l p hn.1 e (by have := mem_edgesR.1 he; unfold isE at this; rw [decide_eq_true_eq] at this; omega)]
    rw [lsum_add, ih', lsum_sub, lsum_sub, lsum_add]
    obtain ⟨m0, m1, m2, m3⟩ := mem_side (hs p (by simp))
    have hd := edgesR_nodup f.W f.H f.W.toNat
    rw [one_edge f hd _ m0, one_edge f hd _ m1, one_edge f hd _ m2, one_edge f hd _ m3]
    show rnds f l + _ = f.rnd p.1 p.2 + rnds f l
    unfold Fld.rnd
    omega

/-- The error of a region. -/
def regE (f : Fld) (l : List Plc) : Int := if valid f ≠ 0 then valid f else if ¬ (∀ p ∈ l, isS f.W f.H p.1 p.2 = true) then 5 else if ¬ l.Nodup then 7 else 0
def insR (f : Fld) (l : List Plc) : Int × Int := if regE f l ≠ 0 then (0, regE f l) else (inP f l, 0)
def rimsR (f : Fld) (l : List Plc) : Int × Int := if regE f l ≠ 0 then (0, regE f l) else (rnds f l, 0)
theorem rimsR_four (f : Fld) (l : List Plc) : (rimsR f l).1 = 4 * (insR f l).1 := by
  unfold rimsR insR
  split
  · rfl
  · exact inP_four f l
end Go.Proofs.Ytahmdnboeenfkaa
