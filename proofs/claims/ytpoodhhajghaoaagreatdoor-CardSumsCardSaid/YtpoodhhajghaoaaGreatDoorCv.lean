/- Plain: which lists are cards. -/
import Derived.Test.YtpoodhhajghaoaaGreatDoorC4
namespace Go.Proofs.YtpoodhhajghaoaaGreatDoor
open Go.RowKit Go.Sort

/-- Something is wrong with what an entry has seen of a place. -/
def badP (es : List Ent) (e : Ent) (p : Nat) : Prop := ((p : Int) = e.1 ∧ e.sn p ≠ e.2.1 - 1) ∨ e.sn p < 0 ∨ (clk es p : Int) < e.sn p
instance (es : List Ent) (e : Ent) (p : Nat) : Decidable (badP es e p) := by unfold badP; infer_instance
/-- Of two entries the one has seen less of some place. -/
def lowE (e f : Ent) : Prop := ∃ p : Nat, p < 3 ∧ e.sn p < f.sn p
instance (e f : Ent) : Decidable (lowE e f) := by unfold lowE; infer_instance
def wrong (es : List Ent) (e : Ent) : Prop := (∃ p : Nat, p < 3 ∧ badP es e p) ∨ ∃ f ∈ es, sawE e f = true ∧ lowE e f
instance (es : List Ent) (e : Ent) : Decidable (wrong es e) := by unfold wrong; infer_instance
def okT (e : Ent) : Prop := 0 ≤ e.1 ∧ e.1 ≤ 2 ∧ right e.2.2.2 = true
instance (e : Ent) : Decidable (okT e) := by unfold okT; infer_instance
def ordR : List Ent → Prop
  | [] => True
  | e :: l => ordR l ∧ (∀ f ∈ l, f.1 ≤ e.1) ∧ e.2.1 = clk l e.1 + 1
instance ordR_dec : ∀ l, Decidable (ordR l)
  | [] => .isTrue trivial
  | e :: l => by
    have := ordR_dec l
    unfold ordR
    infer_instance
/-- The entries come in order of places, those of a place are numbered from 1. -/
def Ord (es : List Ent) : Prop := ordR es.reverse
instance (es : List Ent) : Decidable (Ord es) := by unfold Ord; infer_instance
theorem Ord_nil : Ord [] := trivial
theorem clk_reverse (l : List Ent) (p : Int) : clk l.reverse p = clk l p := by
  unfold clk
  rw [List.filter_reverse, List.length_reverse]
theorem Ord_snoc {l : List Ent} {e : Ent} : Ord (l ++ [e]) ↔ Ord l ∧ (∀ f ∈ l, f.1 ≤ e.1) ∧ e.2.1 = clk l e.1 + 1 := by
  unfold Ord
  rw [List.reverse_append]
  show (ordR l.reverse ∧ (∀ f ∈ l.reverse, f.1 ≤ e.1) ∧ e.2.1 = clk l.reverse e.1 + 1) ↔ _
  rw [clk_reverse]
  simp only [List.mem_reverse]
theorem ordR_behind : ∀ {a b : List Ent}, ordR (a ++ b) → ordR b
  | [], _, h => h
  | _ :: a, _, h => ordR_behind (a := a) h.1
theorem Ord_left {a b : List Ent} (h : Ord (a ++ b)) : Ord a := by
  unfold Ord at h ⊢
  rw [List.reverse_append] at h
  exact ordR_behind h
theorem Ord_take {es : List Ent} (h : Ord es) (k : Nat) : Ord (es.take k) := Ord_left (b := es.drop k) (by rwa [List.take_append_drop])
/-- The error of a list of entries. -/
def val (es : List Ent) : Int := if 60 < es.length then 4 else if ¬ (∀ e ∈ es, okT e) then 1 else if ¬ Ord es then 1 else if ∃ e ∈ es, wrong es e then 11 else 0
structure Card (es : List Ent) : Prop where
  len : es.length ≤ 60
  txt : ∀ e ∈ es, okT e
  ord : Ord es
  saw : ∀ e ∈ es, ¬ wrong es e
theorem val_zero {es : List Ent} : val es = 0 ↔ Card es := by
  unfold val
  constructor
  · intro h
    split at h
    · exact absurd h (by decide)
    rename_i h1
    split at h
    · exact absurd h (by decide)
    rename_i h2
    split at h
    · exact absurd h (by decide)
    rename_i h3
    split at h
    · exact absurd h (by decide)
    rename_i h4
    exact ⟨by omega, Classical.not_not.1 h2, Classical.not_not.1 h3, fun e he hw => h4 ⟨e, he, hw⟩⟩
  · rintro ⟨h1, h2, h3, h4⟩
    rw [if_neg (by omega), if_neg (fun h => h h2), if_neg (fun h => h h3), if_neg (fun ⟨e, he, hw⟩ => h4 e he hw)]
theorem val_large {es : List Ent} (h : 60 < es.length) : val es = 4 := if_pos h
theorem val_txt {es : List Ent} (h : es.length ≤ 60) {e : Ent} (he : e ∈ es) (h2 : ¬ okT e) : val es = 1 := by
  unfold val
  rw [if_neg (by omega), if_pos (fun h => h2 (h e he))]
theorem val_ord {es : List Ent} (h : es.length ≤ 60) (h3 : ¬ Ord es) : val es = 1 := by
  unfold val
  rw [if_neg (by omega), if_pos h3]
  split <;> rfl
theorem val_saw {es : List Ent} (h : es.length ≤ 60) (h2 : ∀ e ∈ es, okT e) (h3 : Ord es) {e : Ent} (he : e ∈ es) (h4 : wrong es e) : val es = 11 := by
  unfold val
  rw [if_neg (by omega), if_neg (fun h => h h2), if_neg (fun h => h h3), if_pos ⟨e, he, h4⟩]
theorem Ord_seq {es : List Ent} (h : Ord es) : ∀ e ∈ es, 1 ≤ e.2.1 ∧ e.2.1 ≤ es.length := by
  have : ∀ l : List Ent, ordR l → ∀ e ∈ l, 1 ≤ e.2.1 ∧ e.2.1 ≤ l.length := by
    intro l
    induction l with
    | nil => intro _ e he; cases he
    | cons x l ih =>
      intro ⟨h1, _, h3⟩ e he
      rcases List.mem_cons.1 he with rfl | he
      · have := clk_le l e.1
        simp only [List.length_cons]
        omega
      · have := ih h1 e he
        simp only [List.length_cons]
        omega
  intro e he
  have := this es.reverse h e (by simpa using he)
  simpa using this
/-- Whether an order goes on, if the last one is known. -/
theorem Ord_last {l : List Ent} {f e : Ent} (h : Ord (l ++ [f])) : Ord (l ++ [f] ++ [e]) ↔ f.1 ≤ e.1 ∧ e.2.1 = clk (l ++ [f]) e.1 + 1 := by
  rw [Ord_snoc]
  constructor
  · rintro ⟨_, h2, h3⟩
    exact ⟨h2 f (by simp), h3⟩
  · rintro ⟨h2, h3⟩
    refine ⟨h, fun g hg => ?_, h3⟩
    rcases List.mem_append.1 hg with hg | hg
    · exact Int.le_trans ((Ord_snoc.1 h).2.1 g hg) h2
    · rw [List.mem_singleton.1 hg]; exact h2
theorem clk_none {l : List Ent} {p : Int} (h : ∀ f ∈ l, f.1 < p) : clk l p = 0 := by
  unfold clk
  rw [List.length_eq_zero_iff, List.filter_eq_nil_iff]
  intro f hf
  have := h f hf
  simp; omega
end Go.Proofs.YtpoodhhajghaoaaGreatDoor
