/- Where the strands end, and how often each is over and under: plain. -/
import Derived.Test.YtgkgloafjhiakaaDoorWd
namespace Go.Proofs.YtgkgloafjhiakaaDoor

/-- Three numbers. -/
abbrev T3 := Nat × Nat × Nat
/-- The left and the right strand at a crossing, and the places behind it. -/
def lft (c : UInt8) (a : T3) : Nat := if c = 97 ∨ c = 65 then a.1 else a.2.1
def rgt (c : UInt8) (a : T3) : Nat := if c = 97 ∨ c = 65 then a.2.1 else a.2.2
def swp (c : UInt8) (a : T3) : T3 := if c = 97 ∨ c = 65 then (a.2.1, a.1, a.2.2) else (a.1, a.2.2, a.2.1)
/-- One more at a place. -/
def inc (a : T3) (i : Nat) : T3 := if i = 0 then (a.1 + 1, a.2) else if i = 1 then (a.1, a.2.1 + 1, a.2.2) else (a.1, a.2.1, a.2.2 + 1)
def up (c : UInt8) (a : T3) : Nat := if c = 97 ∨ c = 98 then lft c a else rgt c a
def dn (c : UInt8) (a : T3) : Nat := if c = 97 ∨ c = 98 then rgt c a else lft c a
/-- Places, over, under. -/
structure Run where
  at3 : T3
  over : T3
  under : T3
def Run.step (r : Run) (c : UInt8) : Run := ⟨swp c r.at3, inc r.over (up c r.at3), inc r.under (dn c r.at3)⟩
def run0 : Run := ⟨(0, 1, 2), (0, 0, 0), (0, 0, 0)⟩
def runL (l : List UInt8) : Run := l.foldl Run.step run0
theorem runL_snoc (l : List UInt8) (c : UInt8) : runL (l ++ [c]) = (runL l).step c := by simp [runL]
theorem runL_take {l : List UInt8} {k : Nat} (h : k < l.length) : runL (l.take (k + 1)) = (runL (l.take k)).step l[k] := by
  rw [List.take_succ_eq_append_getElem h, runL_snoc]
/-- The three places in some order. -/
inductive Perm3 : T3 → Prop
  | p012 : Perm3 (0, 1, 2)
  | p021 : Perm3 (0, 2, 1)
  | p102 : Perm3 (1, 0, 2)
  | p120 : Perm3 (1, 2, 0)
  | p201 : Perm3 (2, 0, 1)
  | p210 : Perm3 (2, 1, 0)
theorem Perm3.swp {a : T3} (h : Perm3 a) (c : UInt8) : Perm3 (swp c a) := by
  unfold Go.Proofs.YtgkgloafjhiakaaDoor.swp
  split <;> cases h <;> constructor
theorem runL_perm (l : List UInt8) : Perm3 (runL l).at3 := by
  refine snocL (P := fun l => Perm3 (runL l).at3) .p012 (fun l c ih => ?_) l
  rw [runL_snoc]; exact ih.swp c
def sum3 (a : T3) : Nat := a.1 + a.2.1 + a.2.2
theorem sum3_inc (a : T3) (i : Nat) : sum3 (inc a i) = sum3 a + 1 := by
  unfold inc sum3
  split
  · show a.1 + 1 + a.2.1 + a.2.2 = _; omega
  · split
    · show a.1 + (a.2.1 + 1) + a.2.2 = _; omega
    · show a.1 + a.2.1 + (a.2.2 + 1) = _; omega
theorem runL_sums (l : List UInt8) : sum3 (runL l).over = l.length ∧ sum3 (runL l).under = l.length := by
  refine snocL (P := fun l => sum3 (runL l).over = l.length ∧ sum3 (runL l).under = l.length) ⟨rfl, rfl⟩ (fun l c ih => ?_) l
  rw [runL_snoc, List.length_append]
  exact ⟨(sum3_inc _ _).trans (by rw [ih.1]; rfl), (sum3_inc _ _).trans (by rw [ih.2]; rfl)⟩
/-- Where each strand stands. -/
def invP (a : T3) : T3 := (if a.1 = 0 then 0 else if a.2.1 = 0 then 1 else 2, if a.1 = 1 then 0 else if a.2.1 = 1 then 1 else 2, if a.1 = 2 then 0 else if a.2.1 = 2 then 1 else 2)
theorem invP_perm {a : T3} (h : Perm3 a) : Perm3 (invP a) := by
  cases h <;> constructor
def endsL (l : List UInt8) : T3 := invP (runL l).at3
theorem endsL_perm (l : List UInt8) : Perm3 (endsL l) := invP_perm (runL_perm l)
theorem perm_sum {a : T3} (h : Perm3 a) : sum3 a = 3 := by cases h <;> rfl
def keptN (a : T3) : Nat := (if a.1 = 0 then 1 else 0) + (if a.2.1 = 1 then 1 else 0) + (if a.2.2 = 2 then 1 else 0)
def ringN (a : T3) : Nat := if keptN a = 3 then 3 else if keptN a = 1 then 2 else 1
end Go.Proofs.YtgkgloafjhiakaaDoor
