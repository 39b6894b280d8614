/- Plain: sorted lists of entries, cards put together. -/
import Derived.Test.YtpoodhhajghaoaaGreatDoorCv
namespace Go.Proofs.YtpoodhhajghaoaaGreatDoor
open Go.RowKit Go.Sort

def keyLt (e f : Ent) : Prop := e.1 < f.1 ∨ (e.1 = f.1 ∧ e.2.1 < f.2.1)
instance (e f : Ent) : Decidable (keyLt e f) := by unfold keyLt; infer_instance
theorem keyLt_irrefl (e : Ent) : ¬ keyLt e e := by unfold keyLt; omega
theorem keyLt_trans {e f g : Ent} (h : keyLt e f) (k : keyLt f g) : keyLt e g := by unfold keyLt at *; omega
theorem keyLt_asymm {e f : Ent} (h : keyLt e f) : ¬ keyLt f e := by unfold keyLt at *; omega
theorem keyLt_total (e f : Ent) : keyLt e f ∨ (e.1 = f.1 ∧ e.2.1 = f.2.1) ∨ keyLt f e := by unfold keyLt; omega

theorem snoc_ind {α : Type} {P : List α → Prop} (h0 : P []) (h1 : ∀ l a, P l → P (l ++ [a])) (l : List α) : P l := by
  have : ∀ l : List α, P l.reverse := by
    intro l
    induction l with
    | nil => exact h0
    | cons a l ih => rw [List.reverse_cons]; exact h1 _ _ ih
  have h := this l.reverse
  rwa [List.reverse_reverse] at h

theorem Ord_num {l : List Ent} (h : Ord l) : ∀ e ∈ l, 1 ≤ e.2.1 ∧ e.2.1 ≤ clk l e.1 := by
  induction l using snoc_ind with
  | h0 => intro e he; cases he
  | h1 l a ih =>
    obtain ⟨h1, h2, h3⟩ := Ord_snoc.1 h
    intro e he
    rw [clk_snoc]
    rcases List.mem_append.1 he with he | he
    · have := ih h1 e he
      omega
    · rw [List.mem_singleton.1 he, if_pos rfl]
      omega
theorem Ord_all {l : List Ent} (h : Ord l) {s p : Int} (h1 : 1 ≤ s) (h2 : s ≤ clk l p) : ∃ f ∈ l, f.1 = p ∧ f.2.1 = s := by
  induction l using snoc_ind with
  | h0 => simp [clk] at h2; omega
  | h1 l a ih =>
    obtain ⟨k1, k2, k3⟩ := Ord_snoc.1 h
    rw [clk_snoc] at h2
    by_cases hle : s ≤ clk l p
    · obtain ⟨f, hf, hq⟩ := ih k1 hle
      exact ⟨f, by simp [hf], hq⟩
    · by_cases hp : a.1 = p
      · rw [if_pos hp] at h2
        subst hp
        exact ⟨a, by simp, rfl, by omega⟩
      · rw [if_neg hp] at h2
        omega
theorem Ord_sorted {l : List Ent} (h : Ord l) : l.Pairwise keyLt := by
  induction l using snoc_ind with
  | h0 => exact List.Pairwise.nil
  | h1 l a ih =>
    obtain ⟨k1, k2, k3⟩ := Ord_snoc.1 h
    rw [List.pairwise_append]
    refine ⟨ih k1, List.pairwise_singleton _ _, fun x hx y hy => ?_⟩
    rw [List.mem_singleton.1 hy]
    have := k2 x hx
    have h4 := (Ord_num k1 x hx).2
    unfold keyLt
    by_cases he : x.1 = a.1
    · rw [he] at h4; omega
    · omega
theorem Ord_of {l : List Ent} (hs : l.Pairwise keyLt) (h1 : ∀ e ∈ l, 1 ≤ e.2.1) (h2 : ∀ e ∈ l, 2 ≤ e.2.1 → ∃ f ∈ l, f.1 = e.1 ∧ f.2.1 = e.2.1 - 1) : Ord l := by
  induction l using snoc_ind with
  | h0 => exact Ord_nil
  | h1 l a ih =>
    obtain ⟨s1, s2, s3⟩ := List.pairwise_append.1 hs
    have s4 : ∀ x ∈ l, keyLt x a := fun x hx => s3 x hx a (by simp)
    have hl : Ord l := by
      refine ih s1 (fun e he => h1 e (by simp [he])) (fun e he h => ?_)
      obtain ⟨f, hf, f1, f2⟩ := h2 e (by simp [he]) h
      rcases List.mem_append.1 hf with hf | hf
      · exact ⟨f, hf, f1, f2⟩
      · rw [List.mem_singleton.1 hf] at f1 f2
        have := s4 e he
        unfold keyLt at this
        omega
    rw [Ord_snoc]
    refine ⟨hl, fun f hf => by have := s4 f hf; unfold keyLt at this; omega, ?_⟩
    have ha := h1 a (by simp)
    have up : (clk l a.1 : Int) < a.2.1 := by
      rcases Nat.eq_zero_or_pos (clk l a.1) with h0 | h0
      · omega
      · obtain ⟨f, hf, f1, f2⟩ := Ord_all hl (s := clk l a.1) (p := a.1) (by omega) (Int.le_refl _)
        have := s4 f hf
        unfold keyLt at this
        omega
    rcases (show a.2.1 = 1 ∨ 2 ≤ a.2.1 by omega) with h | h
    · omega
    · obtain ⟨f, hf, f1, f2⟩ := h2 a (by simp) h
      rcases List.mem_append.1 hf with hf | hf
      · have := (Ord_num hl f hf).2
        rw [f1] at this
        omega
      · rw [List.mem_singleton.1 hf] at f2
        omega
theorem sorted_nodup {l : List Ent} (h : l.Pairwise keyLt) : l.Nodup := by
  refine h.imp ?_
  intro a b h e
  subst e
  exact keyLt_irrefl a h
theorem sorted_inj {l : List Ent} (h : l.Pairwise keyLt) {e f : Ent} (he : e ∈ l) (hf : f ∈ l) (h1 : e.1 = f.1) (h2 : e.2.1 = f.2.1) : e = f := by
  induction l with
  | nil => cases he
  | cons a l ih =>
    obtain ⟨k1, k2⟩ := List.pairwise_cons.1 h
    rcases List.mem_cons.1 he with rfl | he' <;> rcases List.mem_cons.1 hf with rfl | hf'
    · rfl
    · have := k1 f hf'; unfold keyLt at this; omega
    · have := k1 e he'; unfold keyLt at this; omega
    · exact ih k2 he' hf'
theorem sorted_ext {a b : List Ent} (ha : a.Pairwise keyLt) (hb : b.Pairwise keyLt) (h : ∀ e, e ∈ a ↔ e ∈ b) : a = b := by
  have hp : a.Perm b := (List.perm_ext_iff_of_nodup (sorted_nodup ha) (sorted_nodup hb)).2 h
  refine List.Perm.eq_of_pairwise (fun x y _ _ h1 h2 => absurd h2 (keyLt_asymm h1)) ha hb hp
/-- What a sort leaves, where no two keys are equal. -/
theorem sorted_of_sort {a b : List Ent} (hp : b.Perm a) (hs : b.Pairwise fun x y => ¬ keyLt y x) (hn : a.Nodup) (hi : ∀ e ∈ a, ∀ f ∈ a, e.1 = f.1 → e.2.1 = f.2.1 → e = f) : b.Pairwise keyLt := by
  have hb : b.Nodup := hp.nodup_iff.2 hn
  have := List.Pairwise.and hs hb
  refine this.imp_of_mem ?_
  intro x y hx hy ⟨h1, h2⟩
  rcases keyLt_total x y with h | ⟨h, h'⟩ | h
  · exact h
  · exact absurd (hi x (hp.mem_iff.1 hx) y (hp.mem_iff.1 hy) h h') h2
  · exact absurd h h1
end Go.Proofs.YtpoodhhajghaoaaGreatDoor
