/- Words with opposite letters left out: plain. -/
import Derived.Test.YtgkgloafjhiakaaDoorPa
namespace Go.Proofs.YtgkgloafjhiakaaDoor

/-- A letter more: it leaves with its opposite, or stays. -/
def rdL (p : List UInt8) (c : UInt8) : List UInt8 := if p.getLast? = some (c ^^^ 32) then p.dropLast else p ++ [c]
def redL (l : List UInt8) : List UInt8 := l.foldl rdL []
theorem redL_snoc (l : List UInt8) (c : UInt8) : redL (l ++ [c]) = rdL (redL l) c := by simp [redL]
theorem redL_take {l : List UInt8} {k : Nat} (h : k < l.length) : redL (l.take (k + 1)) = rdL (redL (l.take k)) l[k] := by
  rw [List.take_succ_eq_append_getElem h, redL_snoc]
theorem rdL_cases (p : List UInt8) (c : UInt8) : (∃ q, p = q ++ [c ^^^ 32] ∧ rdL p c = q) ∨ (p.getLast? ≠ some (c ^^^ 32) ∧ rdL p c = p ++ [c]) := by
  by_cases h : p.getLast? = some (c ^^^ 32)
  · refine .inl ⟨p.dropLast, ?_, by unfold rdL; rw [if_pos h]⟩
    obtain ⟨q, e⟩ := List.getLast?_eq_some_iff.1 h
    rw [e]; simp
  · exact .inr ⟨h, by unfold rdL; rw [if_neg h]⟩
theorem ltM_opp {c : UInt8} (h : isL c) : mulM (ltM (c ^^^ 32)) (ltM c) = oneM := isL_cases (P := fun c => mulM (ltM (c ^^^ 32)) (ltM c) = oneM) (by decide) (by decide) (by decide) (by decide) h
theorem ltM_opp2 {c : UInt8} (h : isL c) : mulM (ltM c) (ltM (c ^^^ 32)) = oneM := isL_cases (P := fun c => mulM (ltM c) (ltM (c ^^^ 32)) = oneM) (by decide) (by decide) (by decide) (by decide) h
/-- One or less one. -/
def sgL (c : UInt8) : Int := if c = 97 ∨ c = 98 then 1 else -1
theorem sgL_opp {c : UInt8} (h : isL c) : sgL (c ^^^ 32) + sgL c = 0 := isL_cases (P := fun c => sgL (c ^^^ 32) + sgL c = 0) (by decide) (by decide) (by decide) (by decide) h
theorem cntL_one (c : UInt8) : cntL [c] = sgL c := by simp [cntL, sgL]
structure RdOk (l p : List UInt8) : Prop where
  word : wordL p
  mat : matL p = matL l
  cnt : cntL p = cntL l
  len : p.length ≤ l.length
theorem RdOk.step {l p : List UInt8} (h : RdOk l p) {c : UInt8} (hc : isL c) : RdOk (l ++ [c]) (rdL p c) := by
  rcases rdL_cases p c with ⟨q, rfl, e⟩ | ⟨_, e⟩
  · rw [e]
    have hw := h.word
    have hm := h.mat
    have hk := h.cnt
    have hl := h.len
    refine ⟨fun d hd => hw d (by simp [hd]), ?_, ?_, ?_⟩
    · rw [matL_snoc, ← hm, matL_snoc, mulM_assoc, ltM_opp hc, mul_oneM]
    · rw [cntL_append, ← hk, cntL_append, cntL_one, cntL_one]
      have := sgL_opp hc
      omega
    · simp at hl ⊢; omega
  · rw [e]
    refine ⟨fun d hd => ?_, ?_, ?_, ?_⟩
    · rcases List.mem_append.1 hd with hd | hd
      · exact h.word d hd
      · rw [List.mem_singleton.1 hd]; exact hc
    · rw [matL_snoc, matL_snoc, h.mat]
    · rw [cntL_append, cntL_append, h.cnt]
    · have := h.len
      simp; omega
theorem redL_ok {l : List UInt8} : wordL l → RdOk l (redL l) := by
  refine snocL (P := fun l => wordL l → RdOk l (redL l)) (fun _ => ⟨fun c hc => absurd hc (by simp [redL]), rfl, rfl, Nat.le_refl _⟩) (fun l c ih h => ?_) l
  rw [redL_snoc]
  exact (ih fun d hd => h d (by simp [hd])).step (h c (by simp))
/-- No letter stands behind its opposite. -/
def irr (p : List UInt8) : Prop := ∀ x y c, p ≠ x ++ [c ^^^ 32, c] ++ y
theorem irr_left {p q : List UInt8} (h : irr (p ++ q)) : irr p := fun x y c e => h x (y ++ q) c (by rw [e]; simp)
theorem irr_nil : irr [] := fun x y c e => by simp at e
theorem irr_rd {p : List UInt8} (h : irr p) (c : UInt8) : irr (rdL p c) := by
  rcases rdL_cases p c with ⟨q, rfl, e⟩ | ⟨hn, e⟩
  · rw [e]; exact irr_left h
  · rw [e]
    intro x y d e2
    rcases List.eq_nil_or_concat y with rfl | ⟨y', z, rfl⟩
    · have e3 : p ++ [c] = (x ++ [d ^^^ 32]) ++ [d] := by rw [e2]; simp
      obtain ⟨rfl, rfl⟩ := snoc_eq.1 e3
      exact hn (by simp)
    · have e3 : p ++ [c] = (x ++ [d ^^^ 32, d] ++ y') ++ [z] := by rw [e2]; simp
      obtain ⟨rfl, rfl⟩ := snoc_eq.1 e3
      exact h x y' d rfl
theorem redL_irr (l : List UInt8) : irr (redL l) := by
  refine snocL (P := fun l => irr (redL l)) irr_nil (fun l c ih => ?_) l
  rw [redL_snoc]
  exact irr_rd ih c
theorem redL_of_irr {p : List UInt8} : irr p → redL p = p := by
  refine snocL (P := fun p => irr p → redL p = p) (fun _ => rfl) (fun l c ih h => ?_) p
  rw [redL_snoc, ih (irr_left h)]
  rcases rdL_cases l c with ⟨q, rfl, e⟩ | ⟨_, e⟩
  · exact absurd (by simp) (h q [] c)
  · exact e
theorem redL_redL (l : List UInt8) : redL (redL l) = redL l := redL_of_irr (redL_irr l)
theorem redL_length {l : List UInt8} (h : wordL l) : (redL l).length ≤ l.length := (redL_ok h).len
theorem redL_word {l : List UInt8} (h : wordL l) : wordL (redL l) := (redL_ok h).word
end Go.Proofs.YtgkgloafjhiakaaDoor
