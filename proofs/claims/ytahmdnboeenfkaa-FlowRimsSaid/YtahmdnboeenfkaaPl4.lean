/- Plain laws: the path that hair takes. No program stands here. -/
import Derived.Test.YtahmdnboeenfkaaPl3
namespace Go.Proofs.Ytahmdnboeenfkaa

def dxs : List Int := [1, 1, 0, -1, -1, -1, 0, 1]
def dys : List Int := [0, 1, 1, 1, 0, -1, -1, -1]
def dX (d : Int) : Int := dxs.getD d.toNat 0
def dY (d : Int) : Int := dys.getD d.toNat 0
def nxt (f : Fld) (p : Plc) : Plc := (p.1 + dX (f.dir p.1 p.2), p.2 + dY (f.dir p.1 p.2))
def itn (f : Fld) (p : Plc) : Nat → Plc
  | 0 => p
  | k + 1 => nxt f (itn f p k)
def pth (f : Fld) (p : Plc) (k : Nat) : List Plc := (List.range k).map (itn f p)
/-- The first k places are on the field, and no two are the same. -/
structure Goes (f : Fld) (p : Plc) (k : Nat) : Prop where
  on : ∀ i, i < k → isPl f (itn f p i) = true
  new : ∀ i j, i < j → j < k → itn f p i ≠ itn f p j
structure Stop (f : Fld) (p : Plc) (k : Nat) (b : Bool) : Prop where
  goes : Goes f p k
  pos : 0 < k
  off : b = false → isPl f (itn f p k) = false
  back : b = true → isPl f (itn f p k) = true ∧ ∃ i, i < k ∧ itn f p i = itn f p k

theorem pth_length (f : Fld) (p : Plc) (k : Nat) : (pth f p k).length = k := by simp [pth]
theorem pth_get {f : Fld} {p : Plc} {k i : Nat} (h : i < k) : (pth f p k)[i]? = some (itn f p i) := by simp [pth, h]
theorem pth_succ (f : Fld) (p : Plc) (k : Nat) : pth f p (k + 1) = pth f p k ++ [itn f p k] := by unfold pth; rw [List.range_succ, List.map_append]; rfl
theorem mem_pth {f : Fld} {p q : Plc} {k : Nat} : q ∈ pth f p k ↔ ∃ i, i < k ∧ itn f p i = q := by simp [pth]
theorem dX_bd (d : Int) : -1 ≤ dX d ∧ dX d ≤ 1 := by
  unfold dX
  rcases Nat.lt_or_ge d.toNat 8 with h | h
  · generalize d.toNat = n at h ⊢
    have : ∀ n : Fin 8, -1 ≤ dxs.getD n.1 0 ∧ dxs.getD n.1 0 ≤ 1 := by decide
    exact this ⟨n, h⟩
  · rw [List.getD_eq_getElem?_getD, List.getElem?_eq_none (by simpa [dxs] using h)]; simp
theorem dY_bd (d : Int) : -1 ≤ dY d ∧ dY d ≤ 1 := by
  unfold dY
  rcases Nat.lt_or_ge d.toNat 8 with h | h
  · generalize d.toNat = n at h ⊢
    have : ∀ n : Fin 8, -1 ≤ dys.getD n.1 0 ∧ dys.getD n.1 0 ≤ 1 := by decide
    exact this ⟨n, h⟩
  · rw [List.getD_eq_getElem?_getD, List.getElem?_eq_none (by simpa [dys] using h)]; simp

theorem Goes.zero (f : Fld) (p : Plc) : Goes f p 0 := ⟨fun i h => by omega, fun i j _ h => by omega⟩
theorem Goes.succ {f : Fld} {p : Plc} {k : Nat} (h : Goes f p k) (h1 : isPl f (itn f p k) = true) (h2 : itn f p k ∉ pth f p k) : Goes f p (k + 1) := by
  constructor
  · intro i hi
    rcases Nat.lt_or_ge i k with g | g
    · exact h.on i g
    · rw [show i = k by omega]; exact h1
  · intro i j hij hj
    rcases Nat.lt_or_ge j k with g | g
    · exact h.new i j hij g
    · obtain rfl : j = k := by omega
      exact fun e => h2 (mem_pth.2 ⟨i, hij, e⟩)
theorem Stop.off' {f : Fld} {p : Plc} {k : Nat} (h : Goes f p k) (h0 : 0 < k) (h1 : isPl f (itn f p k) = false) : Stop f p k false := ⟨h, h0, fun _ => h1, fun e => by cases e⟩
theorem Stop.back' {f : Fld} {p : Plc} {k : Nat} (h : Goes f p k) (h0 : 0 < k) (h1 : isPl f (itn f p k) = true) (h2 : itn f p k ∈ pth f p k) : Stop f p k true := ⟨h, h0, fun e => (by cases e), fun _ => ⟨h1, mem_pth.1 h2⟩⟩
/-- There is one place to stop. -/
theorem Stop.le {f : Fld} {p : Plc} {k m : Nat} {b c : Bool} (h : Stop f p k b) (g : Stop f p m c) : m ≤ k := by
  rcases Nat.lt_or_ge k m with hlt | hge
  · exfalso
    cases b with
    | false => have := h.off rfl; rw [g.goes.on k hlt] at this; cases this
    | true =>
      obtain ⟨_, i, hi, e⟩ := h.back rfl
      exact g.goes.new i k hi hlt e
  · exact hge
theorem Stop.unique {f : Fld} {p : Plc} {k m : Nat} {b c : Bool} (h : Stop f p k b) (g : Stop f p m c) : k = m ∧ b = c := by
  have h1 := h.le g
  have h2 := g.le h
  obtain rfl : k = m := by omega
  refine ⟨rfl, ?_⟩
  cases b <;> cases c <;> try rfl
  · have := h.off rfl; rw [(g.back rfl).1] at this; cases this
  · have := g.off rfl; rw [(h.back rfl).1] at this; cases this

/-- Numbers below n, no two the same, are no more than n. -/
theorem length_le_of_nodup : ∀ (n : Nat) (l : List Nat), l.Nodup → (∀ a ∈ l, a < n) → l.length ≤ n := by
  intro n
  induction n with
  | zero =>
    intro l _ h
    cases l with
    | nil => simp
    | cons a l => have := h a (by simp); omega
  | succ n ih =>
    intro l hl h
    have h1 : (l.erase n).length ≤ n := by
      refine ih _ (hl.erase n) fun a ha => ?_
      have h2 := h a (List.mem_of_mem_erase ha)
      have h3 : a ≠ n := fun e => by
        subst e
        exact (List.Nodup.not_mem_erase hl) ha
      omega
    have h4 : l.length - 1 ≤ (l.erase n).length := by
      rw [List.length_erase]
      split <;> omega
    omega
theorem Goes.len {f : Fld} {p : Plc} {k : Nat} (h : Goes f p k) (hw : 0 ≤ f.W) (hh : 0 ≤ f.H) : (k : Int) ≤ f.W * f.H := by
  have hcode : ∀ q : Plc, isPl f q = true → 0 ≤ q.2 * f.W + q.1 ∧ q.2 * f.W + q.1 < f.W * f.H := by
    intro q hq
    unfold isPl isP at hq
    rw [decide_eq_true_eq] at hq
    obtain ⟨a, b, c, d⟩ := hq
    have e1 : 0 ≤ q.2 * f.W := Int.mul_nonneg c hw
    have e2 : q.2 * f.W ≤ (f.H - 1) * f.W := Int.mul_le_mul_of_nonneg_right (by omega) hw
    have e3 : (f.H - 1) * f.W = f.W * f.H - f.W := by rw [Int.sub_mul, Int.one_mul, Int.mul_comm]
    omega
  have hinj : ∀ q r : Plc, isPl f q = true → isPl f r = true → q.2 * f.W + q.1 = r.2 * f.W + r.1 → q = r := by
    intro q r hq hr e
    unfold isPl isP at hq hr
    rw [decide_eq_true_eq] at hq hr
    obtain ⟨a, b, c, d⟩ := hq
    obtain ⟨a', b', c', d'⟩ := hr
    have h1 : q.2 = r.2 := by
      rcases Int.lt_trichotomy q.2 r.2 with g | g | g
      · have := Int.mul_le_mul_of_nonneg_right (show q.2 + 1 ≤ r.2 by omega) hw
        rw [Int.add_mul, Int.one_mul] at this
        omega
      · exact g
      · have := Int.mul_le_mul_of_nonneg_right (show r.2 + 1 ≤ q.2 by omega) hw
        rw [Int.add_mul, Int.one_mul] at this
        omega
    rw [h1] at e
    exact Prod.ext (by omega) h1
  have hl := length_le_of_nodup (f.W * f.H).toNat ((List.range k).map fun i => ((itn f p i).2 * f.W + (itn f p i).1).toNat) (by
    unfold List.Nodup
    rw [List.pairwise_map]
    refine List.Pairwise.imp_of_mem ?_ (List.pairwise_lt_range)
    intro i j hi hj hij e
    rw [List.mem_range] at hi hj
    have c1 := hcode _ (h.on i hi)
    have c2 := hcode _ (h.on j hj)
    exact h.new i j hij hj (hinj _ _ (h.on i hi) (h.on j hj) (by omega))) (by
    intro a ha
    simp only [List.mem_map, List.mem_range] at ha
    obtain ⟨i, hi, rfl⟩ := ha
    have c1 := hcode _ (h.on i hi)
    omega)
  simp at hl
  have := Int.mul_nonneg hw hh
  omega

theorem itn_add (f : Fld) (p : Plc) (a i : Nat) : itn f (itn f p a) i = itn f p (a + i) := by
  induction i with
  | zero => rfl
  | succ i ih => rw [itn, ih]; rfl
/-- A path that comes back stays on the field. -/
theorem Stop.ever {f : Fld} {p : Plc} {k : Nat} (h : Stop f p k true) (n : Nat) : ∃ i, i < k ∧ itn f p n = itn f p i := by
  induction n with
  | zero => exact ⟨0, h.pos, rfl⟩
  | succ n ih =>
    obtain ⟨i, hi, e⟩ := ih
    rw [itn, e]
    rcases Nat.lt_or_ge (i + 1) k with g | g
    · exact ⟨i + 1, g, rfl⟩
    · obtain ⟨_, j, hj, e'⟩ := h.back rfl
      refine ⟨j, hj, ?_⟩
      rw [e', show k = i + 1 by omega]; rfl
/-- Combing from a later place of a path. -/
theorem Stop.later {f : Fld} {p : Plc} {k m a : Nat} {b c : Bool} (h : Stop f p k b) (ha : a < k) (g : Stop f (itn f p a) m c) : b = c ∧ k - a ≤ m ∧ (b = false → m = k - a) := by
  cases b with
  | false =>
    have h1 : Stop f (itn f p a) (k - a) false := by
      refine ⟨⟨fun i hi => ?_, fun i j hij hj => ?_⟩, by omega, fun _ => ?_, fun e => by cases e⟩
      · rw [itn_add]; exact h.goes.on _ (by omega)
      · rw [itn_add, itn_add]; exact h.goes.new _ _ (by omega) (by omega)
      · rw [itn_add, show a + (k - a) = k by omega]; exact h.off rfl
    obtain ⟨e1, e2⟩ := h1.unique g
    exact ⟨e2, by omega, fun _ => by omega⟩
  | true =>
    refine ⟨?_, ?_, fun e => by cases e⟩
    · cases c with
      | true => rfl
      | false =>
        have h1 := g.off rfl
        rw [itn_add] at h1
        obtain ⟨i, hi, e⟩ := h.ever (a + m)
        rw [e, h.goes.on i hi] at h1
        cases h1
    · rcases Nat.lt_or_ge m (k - a) with hlt | hge
      · exfalso
        cases c with
        | false =>
          have h1 := g.off rfl
          rw [itn_add, h.goes.on _ (by omega)] at h1
          cases h1
        | true =>
          obtain ⟨_, i, hi, e⟩ := g.back rfl
          rw [itn_add, itn_add] at e
          exact h.goes.new _ _ (by omega) (by omega) e
      · exact hge
end Go.Proofs.Ytahmdnboeenfkaa
