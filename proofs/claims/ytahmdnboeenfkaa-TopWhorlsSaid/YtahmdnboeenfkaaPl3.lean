/- Plain laws: what turns along a path. No program stands here. -/
import Derived.Test.YtahmdnboeenfkaaPl2
namespace Go.Proofs.Ytahmdnboeenfkaa

abbrev Plc := Int × Int
def stepF (f : Fld) (p q : Plc) : Int × Bool :=
  if q.1 = p.1 + 1 ∧ q.2 = p.2 then (f.trn (p.1, p.2, 0), true)
  else if q.1 = p.1 - 1 ∧ q.2 = p.2 then (-f.trn (q.1, q.2, 0), true)
  else if q.1 = p.1 ∧ q.2 = p.2 + 1 then (f.trn (p.1, p.2, 1), true)
  else if q.1 = p.1 ∧ q.2 = p.2 - 1 then (-f.trn (q.1, q.2, 1), true)
  else (0, false)
def isPl (f : Fld) (q : Plc) : Bool := isP f.W f.H q.1 q.2
def stp (f : Fld) (l : List Plc) (i : Nat) : Int × Bool := stepF f (l.getD (i - 1) (0, 0)) (l.getD i (0, 0))
def wsum (f : Fld) (l : List Plc) : Nat → Int
  | 0 => 0
  | k + 1 => wsum f l k + if k = 0 then 0 else (stp f l k).1
def wok (f : Fld) (l : List Plc) : Prop := ∀ i, i < l.length → 0 < i → (stp f l i).2 = true
instance (f : Fld) (l : List Plc) : Decidable (wok f l) := by unfold wok; infer_instance
def wall (f : Fld) (l : List Plc) : Prop := ∀ q ∈ l, isPl f q = true
instance (f : Fld) (l : List Plc) : Decidable (wall f l) := by unfold wall; infer_instance
/-- Walk's two results. -/
def walkR (f : Fld) (l : List Plc) : Int × Int :=
  if valid f ≠ 0 then (0, valid f) else if 1000 < l.length then (0, 4) else if ¬ wall f l then (0, 5) else if ¬ wok f l then (0, 1) else (wsum f l l.length, 0)

theorem stepF_bd (f : Fld) (p q : Plc) : -4 ≤ (stepF f p q).1 ∧ (stepF f p q).1 ≤ 4 := by
  have a := trn_bd f (p.1, p.2, 0)
  have b := trn_bd f (q.1, q.2, 0)
  have c := trn_bd f (p.1, p.2, 1)
  have d := trn_bd f (q.1, q.2, 1)
  unfold stepF
  repeat' split
  all_goals (simp only; omega)
theorem wsum_bd (f : Fld) (l : List Plc) (k : Nat) : -(4 * (k : Int)) ≤ wsum f l k ∧ wsum f l k ≤ 4 * (k : Int) := by
  induction k with
  | zero => simp [wsum]
  | succ k ih =>
    have := stepF_bd f (l.getD (k - 1) (0, 0)) (l.getD k (0, 0))
    unfold wsum stp
    split <;> omega
theorem walkR_bad {f : Fld} {l : List Plc} (h : valid f ≠ 0) : walkR f l = (0, valid f) := by unfold walkR; rw [if_pos h]
theorem walkR_long {f : Fld} {l : List Plc} (h : valid f = 0) (h1 : 1000 < l.length) : walkR f l = (0, 4) := by unfold walkR; rw [if_neg (by simpa using h), if_pos h1]
theorem walkR_off {f : Fld} {l : List Plc} (h : valid f = 0) (h1 : ¬ 1000 < l.length) (h2 : ¬ wall f l) : walkR f l = (0, 5) := by
  unfold walkR; rw [if_neg (by simpa using h), if_neg h1, if_pos h2]
theorem walkR_broken {f : Fld} {l : List Plc} (h : valid f = 0) (h1 : ¬ 1000 < l.length) (h2 : wall f l) (h3 : ¬ wok f l) : walkR f l = (0, 1) := by
  unfold walkR; rw [if_neg (by simpa using h), if_neg h1, if_neg (by simpa using h2), if_pos h3]
theorem walkR_sum {f : Fld} {l : List Plc} (h : valid f = 0) (h1 : ¬ 1000 < l.length) (h2 : wall f l) (h3 : wok f l) : walkR f l = (wsum f l l.length, 0) := by
  unfold walkR; rw [if_neg (by simpa using h), if_neg h1, if_neg (by simpa using h2), if_neg (by simpa using h3)]
theorem wok_stp {f : Fld} {l : List Plc} {k : Nat} {p q : Plc} (hp : l[k - 1]? = some p) (hq : l[k]? = some q) : stp f l k = stepF f p q := by
  unfold stp; rw [List.getD_eq_getElem?_getD, List.getD_eq_getElem?_getD, hp, hq]; rfl
end Go.Proofs.Ytahmdnboeenfkaa
