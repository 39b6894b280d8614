/- Plain: one more entry; parts of cards at a clock; what an entry knew. -/
import Derived.Test.YtpoodhhajghaoaaGreatDoorCn
namespace Go.Proofs.YtpoodhhajghaoaaGreatDoor
open Go.RowKit Go.Sort

section
variable {a b c x : List Ent}
def newE (c : List Ent) (p : Int) (t : ByteArray) : Ent := (p, (clk c p : Int) + 1, ((clk c 0 : Nat), (clk c 1 : Nat), (clk c 2 : Nat)), t)
def addL (c : List Ent) (p : Int) (t : ByteArray) (q : Int) : List Ent := ofP c q ++ if q = p then [newE c p t] else []
def addR (c : List Ent) (p : Int) (t : ByteArray) : List Ent := addL c p t 0 ++ addL c p t 1 ++ addL c p t 2
def addE (c : List Ent) (p : Int) (t : ByteArray) : Int := if val c ≠ 0 then val c else if p < 0 ∨ 2 < p ∨ right t = false then 1 else if 60 ≤ c.length then 4 else 0
theorem newE_sn (c : List Ent) (p : Int) (t : ByteArray) {q : Nat} (hq : q < 3) : (newE c p t).sn q = (clk c q : Nat) := by
  rcases (show q = 0 ∨ q = 1 ∨ q = 2 by omega) with rfl | rfl | rfl <;> rfl
theorem mem_addL {p : Int} {t : ByteArray} {q : Int} {e : Ent} : e ∈ addL c p t q ↔ (e ∈ c ∧ e.1 = q) ∨ (q = p ∧ e = newE c p t) := by
  unfold addL
  rw [List.mem_append, mem_ofP]
  by_cases h : q = p <;> simp [h]
theorem mem_addR (hc : Card c) {p : Int} (h0 : 0 ≤ p) (h2 : p ≤ 2) {t : ByteArray} {e : Ent} : e ∈ addR c p t ↔ e ∈ c ∨ e = newE c p t := by
  unfold addR
  simp only [List.mem_append, mem_addL]
  by_cases h1 : e ∈ c
  · have := card_pl hc h1
    simp [h1]; omega
  · by_cases hn : e = newE c p t
    · simp [hn]; omega
    · simp [h1, hn]
theorem addR_sorted (hc : Card c) (p : Int) (t : ByteArray) : (addR c p t).Pairwise keyLt := by
  have one : ∀ q : Int, (addL c p t q).Pairwise keyLt := fun q => by
    unfold addL
    rw [List.pairwise_append]
    refine ⟨hc.sorted.filter _, ?_, fun x hx y hy => ?_⟩
    · split
      · exact List.pairwise_singleton _ _
      · exact List.Pairwise.nil
    · split at hy
      · rename_i hq
        rw [List.mem_singleton.1 hy]
        obtain ⟨x1, x2⟩ := mem_ofP.1 hx
        have := (Ord_num hc.ord x x1).2
        subst hq
        rw [x2] at this
        refine .inr ⟨x2, ?_⟩
        show x.2.1 < (clk c q : Int) + 1
        omega
      · cases hy
  have pl : ∀ q : Int, ∀ e ∈ addL c p t q, e.1 = q := fun q e he => by
    rcases mem_addL.1 he with ⟨_, h⟩ | ⟨h, rfl⟩
    · exact h
    · exact h.symm
  exact three_sorted (one 0) (one 1) (one 2) (pl 0) (pl 1) (pl 2)
theorem add_perm (hc : Card c) {p : Int} {t : ByteArray} : (c ++ [newE c p t]).Nodup ∧ ∀ e ∈ c ++ [newE c p t], ∀ f ∈ c ++ [newE c p t], e.1 = f.1 → e.2.1 = f.2.1 → e = f := by
  have far : ∀ e ∈ c, e.1 = p → e.2.1 = (clk c p : Int) + 1 → False := fun e he h1 h2 => by
    have := (Ord_num hc.ord e he).2
    rw [h1] at this
    omega
  constructor
  · rw [List.nodup_append]
    refine ⟨sorted_nodup hc.sorted, by simp, fun x hx y hy e => ?_⟩
    subst e
    rw [List.mem_singleton] at hy
    exact far x hx (by rw [hy]; rfl) (by rw [hy]; rfl)
  · intro e he f hf h1 h2
    rcases List.mem_append.1 he with he | he <;> rcases List.mem_append.1 hf with hf | hf
    · exact sorted_inj hc.sorted he hf h1 h2
    · rw [List.mem_singleton] at hf; subst hf
      exact (far e he h1 h2).elim
    · rw [List.mem_singleton] at he; subst he
      exact (far f hf h1.symm h2.symm).elim
    · rw [List.mem_singleton] at he hf
      rw [he, hf]
theorem add_sort (hc : Card c) {p : Int} (h0 : 0 ≤ p) (h2 : p ≤ 2) {t : ByteArray} {l : List Ent} (hp : l.Perm (c ++ [newE c p t])) (hs : l.Pairwise fun x y => ¬ keyLt y x) : l = addR c p t := by
  obtain ⟨nd, inj⟩ := add_perm hc (p := p) (t := t)
  refine sorted_ext (sorted_of_sort hp hs nd inj) (addR_sorted hc p t) (fun e => ?_)
  rw [hp.mem_iff, mem_addR hc h0 h2]
  simp
theorem addR_length (hc : Card c) {p : Int} (h0 : 0 ≤ p) (h2 : p ≤ 2) {t : ByteArray} : (addR c p t).length = c.length + 1 := by
  obtain ⟨nd, inj⟩ := add_perm hc (p := p) (t := t)
  have : (addR c p t).Perm (c ++ [newE c p t]) := (List.perm_ext_iff_of_nodup (sorted_nodup (addR_sorted hc p t)) nd).2 fun e => by
    rw [mem_addR hc h0 h2]; simp
  rw [this.length_eq]
  simp
theorem clk_mono_of {x y : List Ent} (hx : Ord x) (hy : Ord y) (h : ∀ e ∈ x, e ∈ y) (p : Int) : clk x p ≤ clk y p := by
  rcases Nat.eq_zero_or_pos (clk x p) with h0 | h0
  · omega
  · obtain ⟨f, hf, f1, f2⟩ := Ord_all hx (s := clk x p) (p := p) (by omega) (Int.le_refl _)
    have := (Ord_num hy f (h f hf)).2
    rw [f1] at this
    omega
theorem card_add (hc : Card c) {p : Int} (h0 : 0 ≤ p) (h2 : p ≤ 2) {t : ByteArray} (ht : right t = true) (hl : c.length < 60) : Card (addR c p t) := by
  have M : ∀ e, e ∈ addR c p t ↔ e ∈ c ∨ e = newE c p t := fun e => mem_addR hc h0 h2
  have ho : Ord (addR c p t) := by
    refine Ord_of (addR_sorted hc p t) (fun e he => ?_) (fun e he h => ?_)
    · rcases (M e).1 he with he | rfl
      · exact (Ord_num hc.ord e he).1
      · show 1 ≤ (clk c p : Int) + 1
        omega
    · rcases (M e).1 he with he | rfl
      · obtain ⟨f, hf, f1, f2⟩ := Ord_all hc.ord (s := e.2.1 - 1) (p := e.1) (by omega) (by have := (Ord_num hc.ord e he).2; omega)
        exact ⟨f, (M f).2 (.inl hf), f1, f2⟩
      · obtain ⟨f, hf, f1, f2⟩ := Ord_all hc.ord (s := (clk c p : Int)) (p := p) (by change 2 ≤ (clk c p : Int) + 1 at h; omega) (Int.le_refl _)
        refine ⟨f, (M f).2 (.inl hf), f1, ?_⟩
        show f.2.1 = (clk c p : Int) + 1 - 1
        omega
  have mono : ∀ q, clk c q ≤ clk (addR c p t) q := clk_mono_of hc.ord ho fun e he => (M e).2 (.inl he)
  refine ⟨by rw [addR_length hc h0 h2]; omega, fun e he => ?_, ho, fun e he => ?_⟩
  · rcases (M e).1 he with he | rfl
    · exact hc.txt e he
    · exact ⟨h0, h2, ht⟩
  · rcases (M e).1 he with he | rfl
    · refine wrong_intro (fun q hq => ⟨fun h => ((wrong_not (hc.saw e he)).1 q hq).1 h, (hc.sn he hq).1, ?_⟩) (fun f hf hs q hq => ?_)
      · have := (hc.sn he hq).2
        have := mono q
        omega
      · rcases (M f).1 hf with hf | rfl
        · exact hc.up he hf hs hq
        · rw [sawE_iff] at hs
          change (clk c p : Int) + 1 ≤ e.sn p at hs
          obtain ⟨k, hk⟩ := Int.eq_ofNat_of_zero_le h0
          subst hk
          rename_i he'
          have := (hc.sn he' (p := k) (by omega)).2
          omega
    · refine wrong_intro (fun q hq => ⟨fun h => ?_, ?_, ?_⟩) (fun f hf hs q hq => ?_)
      · rw [newE_sn c p t hq]
        change (q : Int) = p at h
        show (clk c q : Int) = (clk c p : Int) + 1 - 1
        rw [h]; omega
      · rw [newE_sn c p t hq]; omega
      · rw [newE_sn c p t hq]
        have := mono q
        omega
      · rw [newE_sn c p t hq]
        rcases (M f).1 hf with hf | rfl
        · exact (hc.sn hf hq).2
        · rw [newE_sn c p t hq]
          exact Int.le_refl _
theorem addE_zero {p : Int} {t : ByteArray} : addE c p t = 0 ↔ Card c ∧ 0 ≤ p ∧ p ≤ 2 ∧ right t = true ∧ c.length < 60 := by
  unfold addE
  constructor
  · intro h
    split at h
    · rename_i h1; exact absurd h h1
    rename_i h1
    split at h
    · exact absurd h (by decide)
    rename_i h2
    split at h
    · exact absurd h (by decide)
    rename_i h3
    refine ⟨val_zero.1 (Classical.not_not.1 h1), by omega, by omega, ?_, by omega⟩
    cases hr : right t
    · exact absurd (.inr (.inr hr)) h2
    · rfl
  · rintro ⟨h1, h2, h3, h4, h5⟩
    rw [if_neg (fun h => h (val_zero.2 h1)), if_neg (by rw [h4]; simp; omega), if_neg (by omega)]
/-- The part of a card at a clock. -/
def atC (c : List Ent) (t : Nat → Int) : List Ent := c.filter fun e => decide (e.2.1 ≤ t e.1.toNat)
theorem mem_atC {t : Nat → Int} {e : Ent} : e ∈ atC c t ↔ e ∈ c ∧ e.2.1 ≤ t e.1.toNat := by unfold atC; rw [List.mem_filter, decide_eq_true_eq]
theorem card_at (hc : Card c) {t : Nat → Int} (h : ∀ e ∈ atC c t, ∀ p : Nat, p < 3 → e.sn p ≤ t p) : Card (atC c t) := by
  refine card_intro (Nat.le_trans (List.length_filter_le _ _) hc.len) (hc.sorted.filter _) (fun e he => ⟨c, hc, (mem_atC.1 he).1, fun f hf hs => ?_, fun f hf _ => (mem_atC.1 hf).1⟩)
  rw [mem_atC]
  refine ⟨hf, ?_⟩
  obtain ⟨p, hp, hq⟩ := hc.place hf
  rw [sawE_iff, hq] at hs
  have := h e he p hp
  rw [hq]
  exact Int.le_trans hs this
theorem at_clock (hc : Card c) {t : Nat → Int} (ht : ∀ p : Nat, p < 3 → 0 ≤ t p ∧ t p ≤ clk c p) (hx : Ord (atC c t)) {p : Nat} (hp : p < 3) : (clk (atC c t) p : Int) = t p := by
  have h1 : (clk (atC c t) p : Int) ≤ t p := by
    rcases Nat.eq_zero_or_pos (clk (atC c t) p) with h0 | h0
    · have := (ht p hp).1; omega
    · obtain ⟨f, hf, f1, f2⟩ := Ord_all hx (s := clk (atC c t) p) (p := p) (by omega) (Int.le_refl _)
      have := (mem_atC.1 hf).2
      rw [f1, f2] at this
      exact this
  have h2 : t p ≤ (clk (atC c t) p : Int) := by
    rcases (show t p ≤ 0 ∨ 1 ≤ t p by omega) with h0 | h0
    · omega
    · obtain ⟨f, hf, f1, f2⟩ := Ord_all hc.ord (s := t p) (p := p) h0 (ht p hp).2
      have := (Ord_num hx f (mem_atC.2 ⟨hf, by rw [f1, f2]; exact Int.le_refl _⟩)).2
      rw [f1, f2] at this
      exact this
  omega
theorem card_at_iff (hc : Card c) {t : Nat → Int} (ht : ∀ p : Nat, p < 3 → 0 ≤ t p ∧ t p ≤ clk c p) : Card (atC c t) ↔ ∀ e ∈ atC c t, ∀ p : Nat, p < 3 → e.sn p ≤ t p := by
  refine ⟨fun h e he p hp => ?_, card_at hc⟩
  have := (h.sn he hp).2
  rw [at_clock hc ht h.ord hp] at this
  exact this
/-- An entry and what it has seen. -/
def knC (c : List Ent) (x : Ent) : List Ent := c.filter fun e => decide (e = x) || sawE x e
theorem mem_knC {x e : Ent} : e ∈ knC c x ↔ e ∈ c ∧ (e = x ∨ sawE x e = true) := by unfold knC; rw [List.mem_filter]; simp
theorem card_kn (hc : Card c) {x : Ent} (hx : x ∈ c) : Card (knC c x) := by
  refine card_intro (Nat.le_trans (List.length_filter_le _ _) hc.len) (hc.sorted.filter _) (fun e he => ⟨c, hc, (mem_knC.1 he).1, fun f hf hs => ?_, fun f hf _ => (mem_knC.1 hf).1⟩)
  rw [mem_knC]
  refine ⟨hf, ?_⟩
  obtain ⟨h1, rfl | h2⟩ := mem_knC.1 he
  · exact .inr hs
  · obtain ⟨p, hp, hq⟩ := hc.place hf
    rw [sawE_iff] at hs ⊢
    have := hc.up hx h1 h2 hp
    rw [hq] at hs ⊢
    exact .inr (Int.le_trans hs this)
end
end Go.Proofs.YtpoodhhajghaoaaGreatDoor
