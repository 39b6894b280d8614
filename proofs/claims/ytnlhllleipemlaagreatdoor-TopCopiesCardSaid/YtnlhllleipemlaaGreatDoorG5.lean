/- Merged texts: Co Cx O4 Rw Wb Wf Wg Wc -/
import Derived.Test.YtnlhllleipemlaaGreatDoorG4
import Derived.Lib.AtoiAll
import Derived.Lib.ItoaNum
import Derived.Lib.ItoaLen
import Derived.LaidEql
import Derived.Stop.Asserts
import Derived.RowKitTokens
namespace Go.Proofs.YtnlhllleipemlaaGreatDoor
open Go.RowKit Go.Sort

section
variable {a b c x : List Ent}
def newE (c : List Ent) (p : Int) (t : ByteArray) : Ent := (p, (clk c p : Int) + 1, ((clk c 0 : Nat), (clk c 1 : Nat), (clk c 2 : Nat)), t)
def addL (c : List Ent) (p : Int) (t : ByteArray) (q : Int) : List Ent := ofP c q ++ if q = p then [newE c p t] else []
def addR (c : List Ent) (p : Int) (t : ByteArray) : List Ent := addL c p t 0 ++ addL c p t 1 ++ addL c p t 2
def addE (c : List Ent) (p : Int) (t : ByteArray) : Int := if val c ≠ 0 then val c else if p < 0 ∨ 2 < p ∨ right t = false then 1 else if 60 ≤ c.length then 4 else 0
theorem newE_sn (c : List Ent) (p : Int) (t : ByteArray) {q : Nat} (hq : q < 3) : (newE c p t).sn q = (clk c q : Nat) := by
  rcases (show q = 0 ∨ q = 1 ∨ q = 2 by omega) with rfl | rfl | rfl <;> rfl
theorem mem_addL {p : Int} {t : ByteArray} {q : Int} {e : Ent} : e ∈ addL c p t q ↔ (e ∈ c ∧ e.1 = q) ∨ (q = p ∧ e = newE c p t) := by
  unfold addL
  rw [List.mem_append, mem_ofP]
  by_cases h : q = p <;> simp [h]
theorem mem_addR (hc : Card c) {p : Int} (h0 : 0 ≤ p) (h2 : p ≤ 2) {t : ByteArray} {e : Ent} : e ∈ addR c p t ↔ e ∈ c ∨ e = newE c p t := by
  unfold addR
  simp only [List.mem_append, mem_addL]
  by_cases h1 : e ∈ c
  · have := card_pl hc h1
    simp [h1]; omega
  · by_cases hn : e = newE c p t
    · simp [hn]; omega
    · simp [h1, hn]
theorem addR_sorted (hc : Card c) (p : Int) (t : ByteArray) : (addR c p t).Pairwise keyLt := by
  have one : ∀ q : Int, (addL c p t q).Pairwise keyLt := fun q => by
    unfold addL
    rw [List.pairwise_append]
    refine ⟨hc.sorted.filter _, ?_, fun x hx y hy => ?_⟩
    · split
      · exact List.pairwise_singleton _ _
      · exact List.Pairwise.nil
    · split at hy
      · rename_i hq
        rw [List.mem_singleton.1 hy]
        obtain ⟨x1, x2⟩ := mem_ofP.1 hx
        have := (Ord_num hc.ord x x1).2
        subst hq
        rw [x2] at this
        refine .inr ⟨x2, ?_⟩
        show x.2.1 < (clk c q : Int) + 1
        omega
      · cases hy
  have pl : ∀ q : Int, ∀ e ∈ addL c p t q, e.1 = q := fun q e he => by
    rcases mem_addL.1 he with ⟨_, h⟩ | ⟨h, rfl⟩
    · exact h
    · exact h.symm
  exact three_sorted (one 0) (one 1) (one 2) (pl 0) (pl 1) (pl 2)
theorem add_perm (hc : Card c) {p : Int} {t : ByteArray} : (c ++ [newE c p t]).Nodup ∧ ∀ e ∈ c ++ [newE c p t], ∀ f ∈ c ++ [newE c p t], e.1 = f.1 → e.2.1 = f.2.1 → e = f := by
  have far : ∀ e ∈ c, e.1 = p → e.2.1 = (clk c p : Int) + 1 → False := fun e he h1 h2 => by
    have := (Ord_num hc.ord e he).2
    rw [h1] at this
    omega
  constructor
  · rw [List.nodup_append]
    refine ⟨sorted_nodup hc.sorted, by simp, fun x hx y hy e => ?_⟩
    subst e
    rw [List.mem_singleton] at hy
    exact far x hx (by rw [hy]; rfl) (by rw [hy]; rfl)
  · intro e he f hf h1 h2
    rcases List.mem_append.1 he with he | he <;> rcases List.mem_append.1 hf with hf | hf
    · exact sorted_inj hc.sorted he hf h1 h2
    · rw [List.mem_singleton] at hf; subst hf
      exact (far e he h1 h2).elim
    · rw [List.mem_singleton] at he; subst he
      exact (far f hf h1.symm h2.symm).elim
    · rw [List.mem_singleton] at he hf
      rw [he, hf]
theorem add_sort (hc : Card c) {p : Int} (h0 : 0 ≤ p) (h2 : p ≤ 2) {t : ByteArray} {l : List Ent} (hp : l.Perm (c ++ [newE c p t])) (hs : l.Pairwise fun x y => ¬ keyLt y x) : l = addR c p t := by
  obtain ⟨nd, inj⟩ := add_perm hc (p := p) (t := t)
  refine sorted_ext (sorted_of_sort hp hs nd inj) (addR_sorted hc p t) (fun e => ?_)
  rw [hp.mem_iff, mem_addR hc h0 h2]
  simp
theorem addR_length (hc : Card c) {p : Int} (h0 : 0 ≤ p) (h2 : p ≤ 2) {t : ByteArray} : (addR c p t).length = c.length + 1 := by
  obtain ⟨nd, inj⟩ := add_perm hc (p := p) (t := t)
  have : (addR c p t).Perm (c ++ [newE c p t]) := (List.perm_ext_iff_of_nodup (sorted_nodup (addR_sorted hc p t)) nd).2 fun e => by
    rw [mem_addR hc h0 h2]; simp
  rw [this.length_eq]
  simp
theorem clk_mono_of {x y : List Ent} (hx : Ord x) (hy : Ord y) (h : ∀ e ∈ x, e ∈ y) (p : Int) : clk x p ≤ clk y p := by
  rcases Nat.eq_zero_or_pos (clk x p) with h0 | h0
  · omega
  · obtain ⟨f, hf, f1, f2⟩ := Ord_all hx (s := clk x p) (p := p) (by omega) (Int.le_refl _)
    have := (Ord_num hy f (h f hf)).2
    rw [f1] at this
    omega
theorem card_add (hc : Card c) {p : Int} (h0 : 0 ≤ p) (h2 : p ≤ 2) {t : ByteArray} (ht : right t = true) (hl : c.length < 60) : Card (addR c p t) := by
  have M : ∀ e, e ∈ addR c p t ↔ e ∈ c ∨ e = newE c p t := fun e => mem_addR hc h0 h2
  have ho : Ord (addR c p t) := by
    refine Ord_of (addR_sorted hc p t) (fun e he => ?_) (fun e he h => ?_)
    · rcases (M e).1 he with he | rfl
      · exact (Ord_num hc.ord e he).1
      · show 1 ≤ (clk c p : Int) + 1
        omega
    · rcases (M e).1 he with he | rfl
      · obtain ⟨f, hf, f1, f2⟩ := Ord_all hc.ord (s := e.2.1 - 1) (p := e.1) (by omega) (by have := (Ord_num hc.ord e he).2; omega)
        exact ⟨f, (M f).2 (.inl hf), f1, f2⟩
      · obtain ⟨f, hf, f1, f2⟩ := Ord_all hc.ord (s := (clk c p : Int)) (p := p) (by change 2 ≤ (clk c p : Int) + 1 at h; omega) (Int.le_refl _)
        refine ⟨f, (M f).2 (.inl hf), f1, ?_⟩
        show f.2.1 = (clk c p : Int) + 1 - 1
        omega
  have mono : ∀ q, clk c q ≤ clk (addR c p t) q := clk_mono_of hc.ord ho fun e he => (M e).2 (.inl he)
  refine ⟨by rw [addR_length hc h0 h2]; omega, fun e he => ?_, ho, fun e he => ?_⟩
  · rcases (M e).1 he with he | rfl
    · exact hc.txt e he
    · exact ⟨h0, h2, ht⟩
  · rcases (M e).1 he with he | rfl
    · refine wrong_intro (fun q hq => ⟨fun h => ((wrong_not (hc.saw e he)).1 q hq).1 h, (hc.sn he hq).1, ?_⟩) (fun f hf hs q hq => ?_)
      · have := (hc.sn he hq).2
        have := mono q
        omega
      · rcases (M f).1 hf with hf | rfl
        · exact hc.up he hf hs hq
        · rw [sawE_iff] at hs
          change (clk c p : Int) + 1 ≤ e.sn p at hs
          obtain ⟨k, hk⟩ := Int.eq_ofNat_of_zero_le h0
          subst hk
          rename_i he'
          have := (hc.sn he' (p := k) (by omega)).2
          omega
    · refine wrong_intro (fun q hq => ⟨fun h => ?_, ?_, ?_⟩) (fun f hf hs q hq => ?_)
      · rw [newE_sn c p t hq]
        change (q : Int) = p at h
        show (clk c q : Int) = (clk c p : Int) + 1 - 1
        rw [h]; omega
      · rw [newE_sn c p t hq]; omega
      · rw [newE_sn c p t hq]
        have := mono q
        omega
      · rw [newE_sn c p t hq]
        rcases (M f).1 hf with hf | rfl
        · exact (hc.sn hf hq).2
        · rw [newE_sn c p t hq]
          exact Int.le_refl _
theorem addE_zero {p : Int} {t : ByteArray} : addE c p t = 0 ↔ Card c ∧ 0 ≤ p ∧ p ≤ 2 ∧ right t = true ∧ c.length < 60 := by
  unfold addE
  constructor
  · intro h
    split at h
    · rename_i h1; exact absurd h h1
    rename_i h1
    split at h
    · exact absurd h (by decide)
    rename_i h2
    split at h
    · exact absurd h (by decide)
    rename_i h3
    refine ⟨val_zero.1 (Classical.not_not.1 h1), by omega, by omega, ?_, by omega⟩
    cases hr : right t
    · exact absurd (.inr (.inr hr)) h2
    · rfl
  · rintro ⟨h1, h2, h3, h4, h5⟩
    rw [if_neg (fun h => h (val_zero.2 h1)), if_neg (by rw [h4]; simp; omega), if_neg (by omega)]
/-- The part of a card at a clock. -/
def atC (c : List Ent) (t : Nat → Int) : List Ent := c.filter fun e => decide (e.2.1 ≤ t e.1.toNat)
theorem mem_atC {t : Nat → Int} {e : Ent} : e ∈ atC c t ↔ e ∈ c ∧ e.2.1 ≤ t e.1.toNat := by unfold atC; rw [List.mem_filter, decide_eq_true_eq]
theorem card_at (hc : Card c) {t : Nat → Int} (h : ∀ e ∈ atC c t, ∀ p : Nat, p < 3 → e.sn p ≤ t p) : Card (atC c t) := by
  refine card_intro (Nat.le_trans (List.length_filter_le _ _) hc.len) (hc.sorted.filter _) (fun e he => ⟨c, hc, (mem_atC.1 he).1, fun f hf hs => ?_, fun f hf _ => (mem_atC.1 hf).1⟩)
  rw [mem_atC]
  refine ⟨hf, ?_⟩
  obtain ⟨p, hp, hq⟩ := hc.place hf
  rw [sawE_iff, hq] at hs
  have := h e he p hp
  rw [hq]
  exact Int.le_trans hs this
theorem at_clock (hc : Card c) {t : Nat → Int} (ht : ∀ p : Nat, p < 3 → 0 ≤ t p ∧ t p ≤ clk c p) (hx : Ord (atC c t)) {p : Nat} (hp : p < 3) : (clk (atC c t) p : Int) = t p := by
  have h1 : (clk (atC c t) p : Int) ≤ t p := by
    rcases Nat.eq_zero_or_pos (clk (atC c t) p) with h0 | h0
    · have := (ht p hp).1; omega
    · obtain ⟨f, hf, f1, f2⟩ := Ord_all hx (s := clk (atC c t) p) (p := p) (by omega) (Int.le_refl _)
      have := (mem_atC.1 hf).2
      rw [f1, f2] at this
      exact this
  have h2 : t p ≤ (clk (atC c t) p : Int) := by
    rcases (show t p ≤ 0 ∨ 1 ≤ t p by omega) with h0 | h0
    · omega
    · obtain ⟨f, hf, f1, f2⟩ := Ord_all hc.ord (s := t p) (p := p) h0 (ht p hp).2
      have := (Ord_num hx f (mem_atC.2 ⟨hf, by rw [f1, f2]; exact Int.le_refl _⟩)).2
      rw [f1, f2] at this
      exact this
  omega
theorem card_at_iff (hc : Card c) {t : Nat → Int} (ht : ∀ p : Nat, p < 3 → 0 ≤ t p ∧ t p ≤ clk c p) : Card (atC c t) ↔ ∀ e ∈ atC c t, ∀ p : Nat, p < 3 → e.sn p ≤ t p := by
  refine ⟨fun h e he p hp => ?_, card_at hc⟩
  have := (h.sn he hp).2
  rw [at_clock hc ht h.ord hp] at this
  exact this
/-- An entry and what it has seen. -/
def knC (c : List Ent) (x : Ent) : List Ent := c.filter fun e => decide (e = x) || sawE x e
theorem mem_knC {x e : Ent} : e ∈ knC c x ↔ e ∈ c ∧ (e = x ∨ sawE x e = true) := by unfold knC; rw [List.mem_filter]; simp
theorem card_kn (hc : Card c) {x : Ent} (hx : x ∈ c) : Card (knC c x) := by
  refine card_intro (Nat.le_trans (List.length_filter_le _ _) hc.len) (hc.sorted.filter _) (fun e he => ⟨c, hc, (mem_knC.1 he).1, fun f hf hs => ?_, fun f hf _ => (mem_knC.1 hf).1⟩)
  rw [mem_knC]
  refine ⟨hf, ?_⟩
  obtain ⟨h1, rfl | h2⟩ := mem_knC.1 he
  · exact .inr hs
  · obtain ⟨p, hp, hq⟩ := hc.place hf
    rw [sawE_iff] at hs ⊢
    have := hc.up hx h1 h2 hp
    rw [hq] at hs ⊢
    exact .inr (Int.le_trans hs this)
end
end Go.Proofs.YtnlhllleipemlaaGreatDoor

namespace Go.Proofs.YtnlhllleipemlaaGreatDoor
open Go.RowKit Go.Sort

section
variable {a b c x : List Ent}
theorem mergeR_comm (h : val2 a b = 0) : val2 b a = 0 ∧ mergeR b a = mergeR a b := by
  obtain ⟨ha, hb, hn⟩ := val2_zero.1 h
  refine ⟨val2_zero.2 ⟨hb, ha, noPart_symm hn⟩, sorted_ext (mergeR_sorted hb ha (noPart_symm hn)) (mergeR_sorted ha hb hn) fun e => ?_⟩
  rw [mem_mergeR hb ha, mem_mergeR ha hb]
  exact Or.comm
theorem noPart_self (ha : Card a) : noPart a a := fun _ he _ hf h1 h2 => sorted_inj ha.sorted he hf h1 h2
theorem mergeR_self (ha : Card a) : val2 a a = 0 ∧ mergeR a a = a := by
  refine ⟨val2_zero.2 ⟨ha, ha, noPart_self ha⟩, sorted_ext (mergeR_sorted ha ha (noPart_self ha)) ha.sorted fun e => ?_⟩
  rw [mem_mergeR ha ha]
  simp
/-- If a and b, and then c, go together, so do b and c, and a with these, and it is the same. -/
theorem mergeR_assoc (h1 : val2 a b = 0) (h3 : val2 (mergeR a b) c = 0) (h4 : (mergeR (mergeR a b) c).length ≤ 60) :
    val2 b c = 0 ∧ (mergeR b c).length ≤ 60 ∧ val2 a (mergeR b c) = 0 ∧ mergeR a (mergeR b c) = mergeR (mergeR a b) c ∧ val (mergeR (mergeR a b) c) = 0 := by
  obtain ⟨ha, hb, hab⟩ := val2_zero.1 h1
  obtain ⟨hx, hc, hxc⟩ := val2_zero.1 h3
  have hM : ∀ e, e ∈ mergeR a b ↔ e ∈ a ∨ e ∈ b := fun e => mem_mergeR ha hb
  have hU : ∀ e, e ∈ mergeR (mergeR a b) c ↔ (e ∈ a ∨ e ∈ b) ∨ e ∈ c := fun e => by rw [mem_mergeR hx hc, hM]
  have hbc : noPart b c := fun e he f hf k1 k2 => hxc e ((hM e).2 (.inr he)) f hf k1 k2
  have hac : noPart a c := fun e he f hf k1 k2 => hxc e ((hM e).2 (.inl he)) f hf k1 k2
  have hus := mergeR_sorted hx hc hxc
  have hvs := mergeR_sorted hb hc hbc
  have hV : ∀ e, e ∈ mergeR b c ↔ e ∈ b ∨ e ∈ c := fun e => mem_mergeR hb hc
  have e1 : mergeR b c = (mergeR (mergeR a b) c).filter (fun e => decide (e ∈ mergeR b c)) := by
    refine sorted_ext hvs (hus.filter _) fun e => ?_
    rw [List.mem_filter, decide_eq_true_eq, hU, hV]
    constructor
    · intro h
      exact ⟨h.elim (fun h => .inl (.inr h)) .inr, h⟩
    · exact fun h => h.2
  have l1 : (mergeR b c).length ≤ 60 := by
    rw [e1]
    exact Nat.le_trans (List.length_filter_le _ _) h4
  have hv := card_merge hb hc hbc l1
  have hav : noPart a (mergeR b c) := fun e he f hf k1 k2 => by
    rcases (hV f).1 hf with hf | hf
    · exact hab e he f hf k1 k2
    · exact hac e he f hf k1 k2
  refine ⟨val2_zero.2 ⟨hb, hc, hbc⟩, l1, val2_zero.2 ⟨ha, hv, hav⟩, sorted_ext (mergeR_sorted ha hv hav) hus fun e => ?_, val_zero.2 (card_merge hx hc hxc h4)⟩
  rw [mem_mergeR ha hv, hV, hU]
  constructor
  · rintro (h | h | h)
    · exact .inl (.inl h)
    · exact .inl (.inr h)
    · exact .inr h
  · rintro ((h | h) | h)
    · exact .inl h
    · exact .inr (.inl h)
    · exact .inr (.inr h)
/-- What a copy with a clock lacks. -/
def misC (c : List Ent) (t : Nat → Int) : List Ent := c.filter fun e => decide (t e.1.toNat < e.2.1)
theorem mis_at (c : List Ent) (t : Nat → Int) : (misC c t).length + (atC c t).length = c.length := by
  unfold misC atC
  induction c with
  | nil => rfl
  | cons e c ih =>
    by_cases h : e.2.1 ≤ t e.1.toNat
    · have h2 : ¬ t e.1.toNat < e.2.1 := by omega
      simp only [List.filter_cons, h, h2, decide_true, decide_false, if_true, if_false, List.length_cons, Bool.false_eq_true]
      omega
    · have h2 : t e.1.toNat < e.2.1 := by omega
      simp only [List.filter_cons, h, h2, decide_true, decide_false, if_true, if_false, List.length_cons, Bool.false_eq_true]
      omega
theorem at_part (hc : Card c) {t : Nat → Int} (hx : Card (atC c t)) : val2 c (atC c t) = 0 ∧ wo (atC c t) c false = [] := by
  refine ⟨val2_zero.2 ⟨hc, hx, fun e he f hf h1 h2 => sorted_inj hc.sorted he (mem_atC.1 hf).1 h1 h2⟩, ?_⟩
  unfold wo
  rw [List.filter_eq_nil_iff]
  intro e he
  have := (mem_atC.1 he).1
  simp [this]
def tri (t0 t1 t2 : Int) (p : Nat) : Int := if p = 0 then t0 else if p = 1 then t1 else t2
/-- The error of the card at a clock. -/
def okC (c : List Ent) (t : Nat → Int) : Prop := ∀ p : Nat, p < 3 → 0 ≤ t p ∧ t p ≤ clk c p
instance (c : List Ent) (t : Nat → Int) : Decidable (okC c t) := by unfold okC; infer_instance
def atE (c : List Ent) (t : Nat → Int) : Int := if val c ≠ 0 then val c else if ¬ okC c t then 1 else if val (atC c t) ≠ 0 then 11 else 0
def atL (c : List Ent) (t : Nat → Int) : List Ent := if atE c t = 0 then atC c t else []
theorem at_bad {t : Nat → Int} (h : val c ≠ 0) : atE c t = val c ∧ atL c t = [] := by
  have h1 : atE c t = val c := if_pos h
  exact ⟨h1, by unfold atL; rw [h1, if_neg h]⟩
theorem at_out {t : Nat → Int} (h : val c = 0) (h2 : ¬ okC c t) : atE c t = 1 ∧ atL c t = [] := by
  have h1 : atE c t = 1 := by unfold atE; rw [if_neg (fun h' => h' h), if_pos h2]
  exact ⟨h1, by unfold atL; rw [h1]; rfl⟩
theorem at_no {t : Nat → Int} (h : val c = 0) (h2 : okC c t) (h3 : val (atC c t) ≠ 0) : atE c t = 11 ∧ atL c t = [] := by
  have h1 : atE c t = 11 := by unfold atE; rw [if_neg (fun h' => h' h), if_neg (fun h' => h' h2), if_pos h3]
  exact ⟨h1, by unfold atL; rw [h1]; rfl⟩
theorem at_ok {t : Nat → Int} (h : val c = 0) (h2 : okC c t) (h3 : val (atC c t) = 0) : atE c t = 0 ∧ atL c t = atC c t := by
  have h1 : atE c t = 0 := by unfold atE; rw [if_neg (fun h' => h' h), if_neg (fun h' => h' h2), if_neg (fun h' => h' h3)]
  exact ⟨h1, by unfold atL; rw [if_pos h1]⟩
theorem at_zero {t : Nat → Int} (h : atE c t = 0) : Card c ∧ okC c t ∧ Card (atC c t) := by
  by_cases h1 : val c = 0
  · by_cases h2 : okC c t
    · by_cases h3 : val (atC c t) = 0
      · exact ⟨val_zero.1 h1, h2, val_zero.1 h3⟩
      · have := (at_no h1 h2 h3).1; omega
    · have := (at_out h1 h2).1; omega
  · have := (at_bad (t := t) h1).1; omega
/-- Where no entry of the part has seen more than the clock tells, the part is a card; else it is none. -/
theorem at_seen {t : Nat → Int} (h : val c = 0) (h2 : okC c t) : val (atC c t) = 0 ↔ ∀ e ∈ atC c t, ∀ p : Nat, p < 3 → e.sn p ≤ t p := by
  rw [val_zero]
  exact card_at_iff (val_zero.1 h) h2
def misE (c : List Ent) (t : Nat → Int) : List Ent := if val c = 0 then misC c t else []
/-- An entry's error and what it knew. -/
def knE (c : List Ent) (i : Int) : Int := if val c ≠ 0 then val c else if 0 ≤ i ∧ i < c.length then 0 else 5
def knL (c : List Ent) (i : Int) : List Ent := if knE c i = 0 then knC c (c.getD i.toNat default) else []
theorem kn_bad {i : Int} (h : val c ≠ 0) : knE c i = val c ∧ knL c i = [] := by
  have h1 : knE c i = val c := if_pos h
  exact ⟨h1, by unfold knL; rw [h1, if_neg h]⟩
theorem kn_none {i : Int} (h : val c = 0) (h2 : ¬ (0 ≤ i ∧ i < c.length)) : knE c i = 5 ∧ knL c i = [] := by
  have h1 : knE c i = 5 := by unfold knE; rw [if_neg (fun h' => h' h), if_neg h2]
  exact ⟨h1, by unfold knL; rw [h1]; rfl⟩
theorem kn_ok {i : Int} (h : val c = 0) (h2 : 0 ≤ i) (h3 : i < c.length) {e : Ent} (he : c[i.toNat]? = some e) : knE c i = 0 ∧ knL c i = knC c e := by
  have h1 : knE c i = 0 := by unfold knE; rw [if_neg (fun h' => h' h), if_pos ⟨h2, h3⟩]
  refine ⟨h1, ?_⟩
  unfold knL
  rw [if_pos h1, List.getD_eq_getElem?_getD, he]
  rfl
theorem kn_card {i : Int} (h : knE c i = 0) : val (knL c i) = 0 := by
  by_cases h1 : val c = 0
  · by_cases h2 : 0 ≤ i ∧ i < c.length
    · have hlt : i.toNat < c.length := by omega
      have he := List.getElem?_eq_getElem hlt
      rw [(kn_ok h1 h2.1 h2.2 he).2]
      exact val_zero.2 (card_kn (val_zero.1 h1) (List.getElem_mem hlt))
    · have := (kn_none h1 h2).1; omega
  · have := (kn_bad (i := i) h1).1; omega
/-- On a card the same entry stands at one place only. -/
theorem card_idx (hc : Card c) {i j : Nat} {e : Ent} (h1 : c[i]? = some e) (h2 : c[j]? = some e) : i = j := by
  have hi : i < c.length := by
    rcases Nat.lt_or_ge i c.length with h | h
    · exact h
    · rw [List.getElem?_eq_none h] at h1; cases h1
  exact (List.getElem?_inj hi (sorted_nodup hc.sorted)).1 (h1.trans h2.symm)
end
end Go.Proofs.YtnlhllleipemlaaGreatDoor

namespace Go.Proofs.YtnlhllleipemlaaGreatDoor
open Go.RowKit Go.Sort

def hasO (es : List Ent) (n p i : Nat) : Bool := match es[i]? with
  | some e => decide (age e = n ∧ e.1 = p)
  | none => false
def rowO (es : List Ent) (n p k : Nat) : List Nat := (List.range k).filter (hasO es n p)
def plO (es : List Ent) (n : Nat) : Nat → List Nat
  | 0 => []
  | p + 1 => plO es n p ++ rowO es n p es.length
def agO (es : List Ent) : Nat → List Nat
  | 0 => []
  | n + 1 => agO es n ++ plO es n 3
/-- The order, as the document says it. -/
def ordL (es : List Ent) : List Nat := agO es 181
section
variable {es : List Ent}
theorem hasO_some {n p i : Nat} : hasO es n p i = true ↔ ∃ e, es[i]? = some e ∧ age e = n ∧ e.1 = p := by
  unfold hasO
  cases es[i]? with
  | none => simp
  | some e => simp
theorem mem_rowO {n p k i : Nat} : i ∈ rowO es n p k ↔ i < k ∧ ∃ e, es[i]? = some e ∧ age e = n ∧ e.1 = p := by
  unfold rowO; rw [List.mem_filter, List.mem_range, hasO_some]
theorem mem_plO {n q i : Nat} : i ∈ plO es n q ↔ ∃ p : Nat, p < q ∧ ∃ e, es[i]? = some e ∧ age e = n ∧ e.1 = p := by
  induction q with
  | zero => simp [plO]
  | succ q ih =>
    show i ∈ plO es n q ++ rowO es n q es.length ↔ _
    rw [List.mem_append, ih, mem_rowO]
    constructor
    · rintro (⟨p, hp, h⟩ | ⟨_, h⟩)
      · exact ⟨p, by omega, h⟩
      · exact ⟨q, by omega, h⟩
    · rintro ⟨p, hp, e, he, h⟩
      rcases Nat.lt_or_ge p q with h1 | h1
      · exact .inl ⟨p, h1, e, he, h⟩
      · obtain rfl : p = q := by omega
        exact .inr ⟨(List.getElem?_eq_some_iff.1 he).1, e, he, h⟩
theorem mem_agO {N i : Nat} : i ∈ agO es N ↔ ∃ n : Nat, n < N ∧ ∃ p : Nat, p < 3 ∧ ∃ e, es[i]? = some e ∧ age e = n ∧ e.1 = p := by
  induction N with
  | zero => simp [agO]
  | succ N ih =>
    show i ∈ agO es N ++ plO es N 3 ↔ _
    rw [List.mem_append, ih, mem_plO]
    constructor
    · rintro (⟨n, hn, h⟩ | h)
      · exact ⟨n, by omega, h⟩
      · exact ⟨N, by omega, h⟩
    · rintro ⟨n, hn, h⟩
      rcases Nat.lt_or_ge n N with h1 | h1
      · exact .inl ⟨n, h1, h⟩
      · obtain rfl : n = N := by omega
        exact .inr h
/-- What the document's list keeps: less seen first, then a lesser place, then a lesser number. -/
def befO (es : List Ent) (i j : Nat) : Prop := ∀ x y, es[i]? = some x → es[j]? = some y → aheadE x y ∨ (age x = age y ∧ x.1 = y.1 ∧ i < j)
theorem rowO_pw (n p k : Nat) : (rowO es n p k).Pairwise (befO es) := by
  have h1 : (rowO es n p k).Pairwise (· < ·) := List.pairwise_lt_range.filter _
  refine (List.pairwise_iff_forall_sublist).2 fun {a b} hs x y hx hy => ?_
  have ha : a ∈ rowO es n p k := hs.subset (by simp)
  have hb : b ∈ rowO es n p k := hs.subset (by simp)
  obtain ⟨_, e, he, a1, a2⟩ := mem_rowO.1 ha
  obtain ⟨_, f, hf, b1, b2⟩ := mem_rowO.1 hb
  obtain rfl := Option.some.inj (hx.symm.trans he)
  obtain rfl := Option.some.inj (hy.symm.trans hf)
  exact .inr ⟨by omega, by omega, (List.pairwise_iff_forall_sublist).1 h1 hs⟩
theorem plO_pw (n q : Nat) : (plO es n q).Pairwise (befO es) := by
  induction q with
  | zero => exact List.Pairwise.nil
  | succ q ih =>
    refine List.pairwise_append.2 ⟨ih, rowO_pw _ _ _, fun a ha b hb x y hx hy => ?_⟩
    obtain ⟨p, hp, e, he, a1, a2⟩ := mem_plO.1 ha
    obtain ⟨_, f, hf, b1, b2⟩ := mem_rowO.1 hb
    obtain rfl := Option.some.inj (hx.symm.trans he)
    obtain rfl := Option.some.inj (hy.symm.trans hf)
    exact .inl (.inr ⟨by omega, by omega⟩)
theorem agO_pw (N : Nat) : (agO es N).Pairwise (befO es) := by
  induction N with
  | zero => exact List.Pairwise.nil
  | succ N ih =>
    refine List.pairwise_append.2 ⟨ih, plO_pw _ _, fun a ha b hb x y hx hy => ?_⟩
    obtain ⟨n, hn, p, hp, e, he, a1, a2⟩ := mem_agO.1 ha
    obtain ⟨p', _, f, hf, b1, b2⟩ := mem_plO.1 hb
    obtain rfl := Option.some.inj (hx.symm.trans he)
    obtain rfl := Option.some.inj (hy.symm.trans hf)
    exact .inl (.inl (by omega))
theorem card_tame (h : Card es) : ∀ e ∈ es, tame e := by
  intro e he
  have b := fun p : Int => clk_le es p
  have c0 := h.sn he (p := 0) (by omega)
  have c1 := h.sn he (p := 1) (by omega)
  have c2 := h.sn he (p := 2) (by omega)
  have b0 := b 0
  have b1 := b 1
  have b2 := b 2
  have := h.len
  exact ⟨⟨c0.1, by have := c0.2; show e.sn 0 ≤ _; simp at this; omega⟩, ⟨c1.1, by have := c1.2; show e.sn 1 ≤ _; simp at this; omega⟩, ⟨c2.1, by have := c2.2; show e.sn 2 ≤ _; simp at this; omega⟩⟩
theorem age_sn (e : Ent) : age e = e.sn 0 + e.sn 1 + e.sn 2 := rfl
/-- Who has seen an entry has seen more than it. -/
theorem age_saw (h : Card es) {e f : Ent} (he : e ∈ es) (hf : f ∈ es) (hs : sawE e f = true) : age f < age e := by
  have u0 := h.up he hf hs (p := 0) (by omega)
  have u1 := h.up he hf hs (p := 1) (by omega)
  have u2 := h.up he hf hs (p := 2) (by omega)
  have h1 := sawE_iff.1 hs
  have h2 := h.own hf
  rw [age_sn, age_sn]
  rcases card_pl h hf with hp | hp | hp <;> rw [hp] at h1 h2 <;> simp at u0 u1 u2 <;> omega
theorem age_place (h : Card es) {e f : Ent} (he : e ∈ es) (hf : f ∈ es) (hp : e.1 = f.1) (hs : e.2.1 < f.2.1) : age e < age f :=
  age_saw h hf he (sawE_iff.2 (by have := h.own hf; rw [hp]; omega))
theorem ahead_total (h : Card es) {e f : Ent} (he : e ∈ es) (hf : f ∈ es) (hne : e ≠ f) : aheadE e f ∨ aheadE f e := by
  by_cases h1 : age e = age f ∧ e.1 = f.1
  · exfalso
    rcases keyLt_total e f with hk | hk | hk
    · have : e.2.1 < f.2.1 := by unfold keyLt at hk; omega
      have := age_place h he hf h1.2 this
      omega
    · exact hne (sorted_inj h.sorted he hf hk.1 hk.2)
    · have : f.2.1 < e.2.1 := by unfold keyLt at hk; omega
      have := age_place h hf he h1.2.symm this
      omega
  · unfold aheadE; omega
theorem ordL_nodup : (ordL es).Nodup := by
  refine (agO_pw (es := es) 181).imp_of_mem fun {a b} ha hb hr hab => ?_
  subst hab
  obtain ⟨_, _, _, _, e, he, _⟩ := mem_agO.1 ha
  rcases hr e e he he with h1 | ⟨_, _, h1⟩
  · unfold aheadE at h1; omega
  · omega
theorem mem_ordL (h : Card es) {i : Nat} : i ∈ ordL es ↔ i < es.length := by
  unfold ordL
  rw [mem_agO]
  constructor
  · rintro ⟨_, _, _, _, e, he, _⟩
    exact (List.getElem?_eq_some_iff.1 he).1
  · intro hi
    have he : es[i]? = some es[i] := List.getElem?_eq_getElem hi
    obtain ⟨⟨a0, a1⟩, ⟨b0, b1⟩, ⟨c0, c1⟩⟩ := card_tame h _ (List.mem_of_getElem? he)
    obtain ⟨p, hp, hp'⟩ := h.place (List.mem_of_getElem? he)
    refine ⟨(age es[i]).toNat, by unfold age; omega, p, hp, _, he, by unfold age; omega, hp'⟩
theorem ordL_perm (h : Card es) : (ordL es).Perm (List.range es.length) :=
  (List.perm_ext_iff_of_nodup ordL_nodup List.nodup_range).2 fun i => by rw [mem_ordL h, List.mem_range]
theorem ordL_strict (h : Card es) : (ordL es).Pairwise fun i j => ∀ x y, es[i]? = some x → es[j]? = some y → aheadE x y := by
  refine (agO_pw (es := es) 181).imp fun {a b} hr x y hx hy => ?_
  rcases hr x y hx hy with h1 | ⟨h1, h2, h3⟩
  · exact h1
  · exfalso
    have hne : x ≠ y := fun e => by
      subst e
      have := card_idx h hx hy
      omega
    rcases ahead_total h (List.mem_of_getElem? hx) (List.mem_of_getElem? hy) hne with h4 | h4 <;> unfold aheadE at h4 <;> omega
theorem ordd_unique (h : Card es) {js : List Nat} (hj : Ordd es js) : js = ordL es := by
  obtain ⟨hp, hw⟩ := hj
  have hnd : js.Nodup := hp.nodup_iff.2 List.nodup_range
  have hs : js.Pairwise fun i j => ∀ x y, es[i]? = some x → es[j]? = some y → aheadE x y := by
    refine (hw.and hnd).imp fun {a b} ⟨h1, h2⟩ x y hx hy => ?_
    have hne : x ≠ y := fun e => by
      subst e
      exact h2 (card_idx h hx hy)
    rcases ahead_total h (List.mem_of_getElem? hx) (List.mem_of_getElem? hy) hne with h4 | h4
    · exact h4
    · exact absurd h4 (h1 x y hx hy)
  refine List.Perm.eq_of_pairwise (fun a b ha hb h1 h2 => ?_) hs (ordL_strict h) (hp.trans (ordL_perm h).symm)
  have hx : es[a]? = some (es[a]'(List.mem_range.1 (hp.mem_iff.1 ha))) := List.getElem?_eq_getElem _
  have hy : es[b]? = some (es[b]'((mem_ordL h).1 hb)) := List.getElem?_eq_getElem _
  have q1 := h1 _ _ hx hy
  have q2 := h2 _ _ hy hx
  unfold aheadE at q1 q2
  omega
end
end Go.Proofs.YtnlhllleipemlaaGreatDoor

namespace Go.Proofs.YtnlhllleipemlaaGreatDoor
open Go.RowKit Go.Sort

/-! Numbers, written. -/
/-- A number of one or two digits, written. -/
def decL (n : Nat) : List UInt8 := if n < 10 then [UInt8.ofNat (48 + n)] else [UInt8.ofNat (48 + n / 10), UInt8.ofNat (48 + n % 10)]
theorem atoi_dec : ∀ n, n < 100 → Lib.atoiAll (decL n) = .ok (n : Int) := by decide +kernel
theorem decDigits_dec : ∀ n, n < 100 → Lib.decDigits n = decL n := by
  intro n hn
  unfold Lib.decDigits decL
  split
  · rfl
  · unfold Lib.decDigits
    rw [dif_pos (by omega)]
    rfl
theorem decDigits_mem : ∀ (u : Nat) (b : UInt8), b ∈ Lib.decDigits u → 48 ≤ b.toNat ∧ b.toNat ≤ 57 := by
  intro u
  induction u using Nat.strongRecOn with
  | ind u ih =>
    intro b hb
    unfold Lib.decDigits at hb
    split at hb
    · rename_i h
      rw [List.mem_singleton.1 hb]
      have : (UInt8.ofNat (48 + u)).toNat = 48 + u := by rw [UInt8.toNat_ofNat']; omega
      omega
    · rename_i h
      rcases List.mem_append.1 hb with hb | hb
      · exact ih (u / 10) (by omega) b hb
      · rw [List.mem_singleton.1 hb]
        have : (UInt8.ofNat (48 + u % 10)).toNat = 48 + u % 10 := by rw [UInt8.toNat_ofNat']; omega
        omega
theorem itoa_mem {n : Int} {b : UInt8} (h : b ∈ Lib.itoa n) : b.toNat = 45 ∨ (48 ≤ b.toNat ∧ b.toNat ≤ 57) := by
  unfold Lib.itoa at h
  split at h
  · rcases List.mem_cons.1 h with rfl | h
    · exact .inl rfl
    · exact .inr (decDigits_mem _ _ h)
  · exact .inr (decDigits_mem _ _ h)
theorem itoa_blank (n : Int) : (32 : UInt8) ∉ Lib.itoa n := fun h => by have := itoa_mem h; revert this; decide
theorem itoa_feed (n : Int) : (10 : UInt8) ∉ Lib.itoa n := fun h => by have := itoa_mem h; revert this; decide
/-- The number that digits spell. -/
def numOf (l : List UInt8) : Nat := l.foldl (fun n b => 10 * n + (b.toNat - 48)) 0
theorem numOf_snoc (l : List UInt8) (b : UInt8) : numOf (l ++ [b]) = 10 * numOf l + (b.toNat - 48) := by simp [numOf]
theorem numOf_dec (u : Nat) : numOf (Lib.decDigits u) = u := by
  induction u using Nat.strongRecOn with
  | ind u ih =>
    unfold Lib.decDigits
    split
    · rename_i h
      have : (UInt8.ofNat (48 + u)).toNat = 48 + u := by rw [UInt8.toNat_ofNat']; omega
      show 10 * 0 + ((UInt8.ofNat (48 + u)).toNat - 48) = u
      omega
    · rename_i h
      rw [numOf_snoc, ih (u / 10) (by omega)]
      have : (UInt8.ofNat (48 + u % 10)).toNat = 48 + u % 10 := by rw [UInt8.toNat_ofNat']; omega
      omega
theorem decDigits_inj {u v : Nat} (h : Lib.decDigits u = Lib.decDigits v) : u = v := by rw [← numOf_dec u, h, numOf_dec]
theorem itoa_inj {n m : Int} (h : Lib.itoa n = Lib.itoa m) : n = m := by
  unfold Lib.itoa at h
  split at h
  · split at h
    · rw [List.cons.injEq] at h
      have := decDigits_inj h.2
      omega
    · exfalso
      have : (45 : UInt8) ∈ Lib.decDigits m.toNat := by rw [← h]; exact List.mem_cons_self
      have := decDigits_mem _ _ this
      revert this; decide
  · split at h
    · exfalso
      have : (45 : UInt8) ∈ Lib.decDigits n.toNat := by rw [h]; exact List.mem_cons_self
      have := decDigits_mem _ _ this
      revert this; decide
    · have := decDigits_inj h
      omega
theorem atoi_itoa {n : Int} (h0 : 0 ≤ n) (h1 : n ≤ 99) : Lib.atoiAll (Lib.itoa n) = .ok n := by
  have e : Lib.itoa n = decL n.toNat := by
    unfold Lib.itoa
    rw [if_neg (by omega), decDigits_dec _ (by omega)]
  rw [e, atoi_dec _ (by omega)]
  congr 1
  omega
/-! Lines. -/
/-- Two texts that are parted by the same byte, which the first parts lack. -/
theorem part_eq {b : UInt8} {u v x y : List UInt8} (hu : b ∉ u) (hv : b ∉ v) (h : u ++ b :: x = v ++ b :: y) : u = v ∧ x = y := by
  induction u generalizing v with
  | nil =>
    cases v with
    | nil => simp at h; exact ⟨rfl, h⟩
    | cons c v => simp at h; exact absurd (by rw [← h.1]; exact List.mem_cons_self) hv
  | cons a u ih =>
    cases v with
    | nil => simp at h; exact absurd (by rw [h.1]; exact List.mem_cons_self) hu
    | cons c v =>
      simp at h
      obtain ⟨e1, e2⟩ := ih (v := v) (fun hm => hu (List.mem_cons_of_mem _ hm)) (fun hm => hv (List.mem_cons_of_mem _ hm)) h.2
      exact ⟨by rw [h.1, e1], e2⟩
/-- A line without its end. -/
def bodyL (e : Ent) : List UInt8 := Lib.itoa e.1 ++ 32 :: (Lib.itoa e.2.1 ++ 32 :: (Lib.itoa e.2.2.1.1 ++ 32 :: (Lib.itoa e.2.2.1.2.1 ++ 32 :: (Lib.itoa e.2.2.1.2.2 ++ 32 :: e.2.2.2.data.toList))))
def lineL (e : Ent) : List UInt8 := bodyL e ++ [10]
theorem bodyL_inj {e f : Ent} (h : bodyL e = bodyL f) : e = f := by
  obtain ⟨p, q, ⟨a, b, c⟩, t⟩ := e
  obtain ⟨p', q', ⟨a', b', c'⟩, t'⟩ := f
  unfold bodyL at h
  dsimp only at h
  obtain ⟨h1, h⟩ := part_eq (itoa_blank _) (itoa_blank _) h
  obtain ⟨h2, h⟩ := part_eq (itoa_blank _) (itoa_blank _) h
  obtain ⟨h3, h⟩ := part_eq (itoa_blank _) (itoa_blank _) h
  obtain ⟨h4, h⟩ := part_eq (itoa_blank _) (itoa_blank _) h
  obtain ⟨h5, h⟩ := part_eq (itoa_blank _) (itoa_blank _) h
  rw [itoa_inj h1, itoa_inj h2, itoa_inj h3, itoa_inj h4, itoa_inj h5, ByteArray.ext (Array.toList_inj.1 h)]
theorem lineL_inj {e f : Ent} (h : lineL e = lineL f) : e = f := bodyL_inj (List.append_cancel_right h)
/-- A text without a line's end. -/
def oneLine (e : Ent) : Prop := (10 : UInt8) ∉ e.2.2.2.data.toList
theorem body_feed {e : Ent} (h : oneLine e) : (10 : UInt8) ∉ bodyL e := by
  unfold bodyL
  have d : (10 : UInt8) ≠ 32 := by decide
  unfold oneLine at h
  simp only [List.mem_append, List.mem_cons, itoa_feed, d, false_or]
  exact h
theorem right_feed {t : ByteArray} (h : right t = true) : (10 : UInt8) ∉ t.data.toList := by
  intro hm
  obtain ⟨i, hi, he⟩ := List.getElem_of_mem hm
  have hi' : i < t.size := by simpa using hi
  unfold right at h
  rw [decide_eq_true_eq] at h
  have := h.2 i hi'
  unfold okB at this
  rw [bt_in hi'] at this
  have e2 : t[i] = (10 : UInt8) := he
  rw [e2] at this
  revert this; decide
theorem card_line {c : List Ent} (h : Card c) {e : Ent} (he : e ∈ c) : oneLine e := right_feed (h.txt e he).2.2
/-! The order, as a list of entries. -/
def entZ : Ent := (0, 0, (0, 0, 0), ⟨#[]⟩)
def ordE (c : List Ent) : List Ent := (ordL c).map fun j => (c[j]?).getD entZ
theorem range_entries (c : List Ent) : (List.range c.length).map (fun j => (c[j]?).getD entZ) = c := by
  apply List.ext_getElem
  · simp
  · intro i h1 h2
    simp [List.getElem?_eq_getElem h2]
/-- The text of a card. -/
def writeL (c : List Ent) : List UInt8 := (ordE c).flatMap lineL
section
variable {c c' : List Ent}
theorem ordE_perm (h : Card c) : (ordE c).Perm c := by
  have := (ordL_perm h).map fun j => (c[j]?).getD entZ
  rwa [range_entries] at this
theorem ordE_pw (h : Card c) : (ordE c).Pairwise aheadE := by
  unfold ordE
  rw [List.pairwise_map]
  refine (ordL_strict h).imp_of_mem fun {i j} hi hj hr => ?_
  have h1 := List.getElem?_eq_getElem ((mem_ordL h).1 hi)
  have h2 := List.getElem?_eq_getElem ((mem_ordL h).1 hj)
  rw [h1, h2]
  exact hr _ _ h1 h2
theorem aheadE_asymm {e f : Ent} (h : aheadE e f) : ¬ aheadE f e := by unfold aheadE at *; omega
theorem ordE_unique (h : Card c) {l : List Ent} (hp : l.Perm c) (hw : l.Pairwise aheadE) : l = ordE c :=
  List.Perm.eq_of_pairwise (fun _ _ _ _ h1 h2 => absurd h2 (aheadE_asymm h1)) hw (ordE_pw h) (hp.trans (ordE_perm h).symm)
theorem ordE_length (h : Card c) : (ordE c).length = c.length := (ordE_perm h).length_eq
theorem mem_ordE (h : Card c) {e : Ent} : e ∈ ordE c ↔ e ∈ c := (ordE_perm h).mem_iff
theorem card_nodup (h : Card c) : c.Nodup := sorted_nodup h.sorted
/-- The first entries of a card's order are a card, in the same order. -/
theorem head_card (h : Card c) (m : Nat) : Card (c.filter fun e => decide (e ∈ (ordE c).take m)) ∧ ordE (c.filter fun e => decide (e ∈ (ordE c).take m)) = (ordE c).take m := by
  have hm : ∀ e, e ∈ (c.filter fun e => decide (e ∈ (ordE c).take m)) ↔ e ∈ (ordE c).take m := fun e => by
    rw [List.mem_filter, decide_eq_true_eq]
    exact ⟨fun h' => h'.2, fun h' => ⟨(mem_ordE h).1 (List.mem_of_mem_take h'), h'⟩⟩
  have hc : Card (c.filter fun e => decide (e ∈ (ordE c).take m)) := by
    refine card_intro (Nat.le_trans (List.length_filter_le _ _) h.len) (h.sorted.filter _) (fun e he => ⟨c, h, (List.mem_filter.1 he).1, fun f hf hs => ?_, fun f hf _ => (List.mem_filter.1 hf).1⟩)
    rw [hm] at he ⊢
    have hec := (mem_ordE h).1 (List.mem_of_mem_take he)
    have ha := age_saw h hec hf hs
    have hf' := (mem_ordE h).2 hf
    rw [← List.take_append_drop m (ordE c)] at hf'
    rcases List.mem_append.1 hf' with h1 | h1
    · exact h1
    · have hp := ordE_pw h
      rw [← List.take_append_drop m (ordE c), List.pairwise_append] at hp
      have := hp.2.2 e he f h1
      unfold aheadE at this
      omega
  refine ⟨hc, (ordE_unique hc ?_ ((ordE_pw h).sublist (List.take_sublist _ _))).symm⟩
  refine (List.perm_ext_iff_of_nodup ?_ (card_nodup hc)).2 fun e => (hm e).symm
  exact (((ordE_perm h).nodup_iff.2 (card_nodup h)).sublist (List.take_sublist _ _))
theorem next_card (h : Card c) (h' : Card c') {x : Ent} {r : List Ent} (he : ordE c' = ordE c ++ x :: r) : ∃ d, Card d ∧ d.Perm (c ++ [x]) ∧ ordE d = ordE c ++ [x] := by
  obtain ⟨h1, h2⟩ := head_card h' ((ordE c).length + 1)
  have ht : (ordE c').take ((ordE c).length + 1) = ordE c ++ [x] := by
    rw [he, List.take_append, List.take_of_length_le (by omega)]
    simp
  rw [ht] at h1 h2
  refine ⟨_, h1, ?_, h2⟩
  have := (ordE_perm h1).symm
  rw [h2] at this
  exact this.trans ((ordE_perm h).append_right _)
theorem lines_prefix {E E' : List Ent} (h : ∀ e ∈ E, oneLine e) (h' : ∀ e ∈ E', oneLine e) (hp : E.flatMap lineL <+: E'.flatMap lineL) : E <+: E' := by
  induction E generalizing E' with
  | nil => exact List.nil_prefix
  | cons e E ih =>
    cases E' with
    | nil =>
      obtain ⟨t, ht⟩ := hp
      simp [lineL] at ht
    | cons f E' =>
      obtain ⟨t, ht⟩ := hp
      simp only [List.flatMap_cons, lineL, List.append_assoc, List.singleton_append] at ht
      obtain ⟨h1, h2⟩ := part_eq (body_feed (h e (by simp))) (body_feed (h' f (by simp))) ht
      obtain rfl := bodyL_inj h1
      have := ih (fun x hx => h x (List.mem_cons_of_mem _ hx)) (fun x hx => h' x (List.mem_cons_of_mem _ hx)) (E' := E') ⟨t, by simpa [lineL] using h2⟩
      exact (List.cons_prefix_cons).2 ⟨rfl, this⟩
theorem ordE_line (h : Card c) : ∀ e ∈ ordE c, oneLine e := fun _ he => card_line h ((mem_ordE h).1 he)
theorem ordE_inj (h : Card c) (h' : Card c') (he : ordE c = ordE c') : c = c' :=
  sorted_ext h.sorted h'.sorted fun e => by rw [← mem_ordE h, he, mem_ordE h']
theorem writeL_prefix (h : Card c) (h' : Card c') (hp : writeL c <+: writeL c') : ordE c <+: ordE c' := lines_prefix (ordE_line h) (ordE_line h') hp
theorem writeL_inj (h : Card c) (h' : Card c') (he : writeL c = writeL c') : c = c' := by
  obtain ⟨r, hr⟩ := writeL_prefix h h' (by rw [he]; exact List.prefix_rfl)
  have hw : writeL c' = writeL c ++ r.flatMap lineL := by unfold writeL; rw [← hr, List.flatMap_append]
  rw [he] at hw
  have h0 : r.flatMap lineL = [] := by
    have := congrArg List.length hw
    rw [List.length_append] at this
    exact List.eq_nil_of_length_eq_zero (by omega)
  cases r with
  | nil => rw [List.append_nil] at hr; exact ordE_inj h h' hr
  | cons x r => simp [lineL] at h0
/-- The card of the longest beginning of a text, and its length. -/
structure MaxR (text : List UInt8) (c : List Ent) (k : Nat) : Prop where
  card : Card c
  le : k ≤ text.length
  eq : writeL c = text.take k
  max : ∀ c' k', Card c' → k' ≤ text.length → writeL c' = text.take k' → k' ≤ k
theorem MaxR.unique {text : List UInt8} {k k' : Nat} (h : MaxR text c k) (h' : MaxR text c' k') : c = c' ∧ k = k' := by
  have h1 := h.max c' k' h'.card h'.le h'.eq
  have h2 := h'.max c k h.card h.le h.eq
  obtain rfl : k = k' := by omega
  exact ⟨writeL_inj h.card h'.card (h.eq.trans h'.eq.symm), rfl⟩
/-- Where no next line can be read, the longest beginning is reached. -/
theorem max_of_stuck {text : List UInt8} {k : Nat} (h : Card c) (hk : k ≤ text.length) (he : writeL c = text.take k)
    (hs : ∀ x d, Card d → d.Perm (c ++ [x]) → ordE d = ordE c ++ [x] → lineL x <+: text.drop k → False) : MaxR text c k := by
  refine ⟨h, hk, he, fun c' k' h' hk' he' => ?_⟩
  rcases Nat.le_total k' k with hle | hle
  · exact hle
  obtain ⟨r, hr⟩ := writeL_prefix h h' (by rw [he, he']; exact List.take_prefix_take_left hle)
  have hw : writeL c' = writeL c ++ r.flatMap lineL := by unfold writeL; rw [← hr, List.flatMap_append]
  cases r with
  | nil =>
    rw [he, he', List.flatMap_nil, List.append_nil] at hw
    have := congrArg List.length hw
    rw [List.length_take, List.length_take] at this
    omega
  | cons x r =>
    exfalso
    obtain ⟨d, d1, d2, d3⟩ := next_card h h' hr.symm
    refine hs x d d1 d2 d3 ?_
    rw [he, he', List.flatMap_cons] at hw
    have h3 : lineL x ++ r.flatMap lineL <+: text.drop k := by
      have : text.take k' <+: text := List.take_prefix _ _
      rw [hw] at this
      obtain ⟨t, ht⟩ := this
      refine ⟨t, ?_⟩
      rw [List.append_assoc] at ht
      conv => rhs; rw [← ht]
      rw [List.drop_append_of_le_length (by rw [List.length_take]; omega), List.drop_take_self, List.nil_append]
    exact (List.prefix_append _ _).trans h3
/-- The next line of a text is that of an entry: the text up to the next line's end is its body. -/
theorem line_at {x : Ent} {s r t : List UInt8} (hx : oneLine x) (hs : (10 : UInt8) ∉ s) (ht : t = s ++ 10 :: r) (h : lineL x <+: t) : bodyL x = s := by
  obtain ⟨q, hq⟩ := h
  rw [ht, lineL, List.append_assoc, List.singleton_append] at hq
  exact (part_eq (body_feed hx) hs hq).1
theorem line_none {x : Ent} {t : List UInt8} (ht : (10 : UInt8) ∉ t) (h : lineL x <+: t) : False := by
  obtain ⟨q, hq⟩ := h
  rw [← hq, lineL] at ht
  simp at ht
/-- The entry that makes a card of a card and a sorted list. -/
theorem sort_next {x : Ent} {d l : List Ent} (hd : Card d) (hp : d.Perm (c ++ [x])) (hl : l.Perm (c ++ [x])) (hs : l.Pairwise fun x y => ¬ keyLt y x) : l = d := by
  have hn : (c ++ [x]).Nodup := hp.nodup_iff.1 (card_nodup hd)
  have hi : ∀ e ∈ c ++ [x], ∀ f ∈ c ++ [x], e.1 = f.1 → e.2.1 = f.2.1 → e = f := fun e he f hf h1 h2 => sorted_inj hd.sorted (hp.mem_iff.2 he) (hp.mem_iff.2 hf) h1 h2
  exact sorted_ext (sorted_of_sort hl hs hn hi) hd.sorted fun e => by rw [hl.mem_iff, hp.mem_iff]
/-- Small numbers. -/
def smallE (x : Ent) : Prop := (0 ≤ x.1 ∧ x.1 ≤ 2) ∧ (0 ≤ x.2.1 ∧ x.2.1 ≤ 60) ∧ (0 ≤ x.2.2.1.1 ∧ x.2.2.1.1 ≤ 60) ∧ (0 ≤ x.2.2.1.2.1 ∧ x.2.2.1.2.1 ≤ 60) ∧ (0 ≤ x.2.2.1.2.2 ∧ x.2.2.1.2.2 ≤ 60)
theorem card_small (h : Card c) {x : Ent} (hx : x ∈ c) : smallE x := by
  obtain ⟨t1, t2, t3⟩ := card_tame h x hx
  have h1 := Ord_seq h.ord x hx
  have h2 := h.len
  have h3 := h.txt x hx
  exact ⟨⟨h3.1, h3.2.1⟩, ⟨by omega, by omega⟩, t1, t2, t3⟩
end
end Go.Proofs.YtnlhllleipemlaaGreatDoor

namespace Go.Proofs.YtnlhllleipemlaaGreatDoor
open Go.RowKit Go.Sort

abbrev isB (w : World) (B b : Nat) (l : List UInt8) : Prop := Lib.IsBuilder 99 5 B b (Lib.byteCells l) w
theorem isB_below {B b : Nat} {bs : List Value} {w w' : World} (h : Lib.IsBuilder 99 5 B b bs w) (hb : Below w.heap.size w w') : Lib.IsBuilder 99 5 B b bs w' := by
  rcases h with h | h
  · refine .inl ?_
    have hl := h.lt
    obtain ⟨h1, v, h2, h3, h4⟩ := h
    exact ⟨h1, v, (hb.block b hl).trans h2, row_on h3 hb, h4⟩
  · refine .inr ?_
    have hl := h.lt
    obtain ⟨h1, v, h2, h3, h4⟩ := h
    exact ⟨h1, v, (hb.block b hl).trans h2, row_on h3 hb, h4⟩
theorem isB_new (w : World) : isB (w.alloc (.cells #[.pointer none, .slice none 0 0] 99)) w.heap.size w.heap.size [] :=
  .inl ⟨Nat.le_refl _, .slice none 0 0, heap_alloc_new w _, World.ownsRow_nil _ _ _ _, by simp [Value.ownBlock]⟩
theorem byteCells_append (a b : List UInt8) : Lib.byteCells a ++ Lib.strCells ⟨b.toArray⟩ = Lib.byteCells (a ++ b) := by
  simp [Lib.byteCells, Lib.strCells]
/-- WriteString, in plain words. -/
theorem ws_any (B b : Nat) (l r : List UInt8) (w : World) (h : isB w B b l) (hlen : l.length + r.length ≤ 1000000) (hBw : B ≤ w.heap.size) :
    Calls Tryz.prog 52 #[.pointer (some ⟨b, 0, none⟩), .string ⟨r.toArray⟩] w fun e w' => (∃ n, e = .returned (.tuple #[.int .i64 n, .nilIface])) ∧ isB w' B b (l ++ r) ∧ Below B w w' ∧ Lib.OthersKept 5 (some b) w w' :=
  (writeString_any B b (Lib.byteCells l) ⟨r.toArray⟩ w h (by rw [Lib.byteCells_length]; show _ + r.toArray.size ≤ _; simpa using hlen) hBw).mono fun e w' ⟨h1, h2, h3, h4⟩ => ⟨⟨_, h1⟩, .inr (by rw [byteCells_append] at h2; exact h2), h3, h4⟩
theorem bs_any (B b : Nat) (l : List UInt8) (w : World) (h : isB w B b l) (hBw : B ≤ w.heap.size) :
    Calls Tryz.prog 53 #[.pointer (some ⟨b, 0, none⟩)] w fun e w' => e = .returned (.string ⟨l.toArray⟩) ∧ Below B w w' := Tryz.Builder_String_any B b l w h hBw
/-- What stands in a block. -/
abbrev At (w : World) (b : Nat) (cs : Array Value) (t : TypeId) : Prop := w.heap[b]? = some (.cells cs t (0, 0))
theorem At.below {w w' : World} {b : Nat} {cs : Array Value} {t : TypeId} (h : At w b cs t) (hb : Below w.heap.size w w') : At w' b cs t :=
  (hb.block b (Array.getElem?_eq_some_iff.1 h).1).trans h
theorem At.kept {w w' : World} {b c : Nat} {cs : Array Value} {t : TypeId} (h : At w b cs t) (hk : Lib.OthersKept 5 (some c) w w') (hne : b ≠ c) (ht : t ≠ 5) : At w' b cs t :=
  hk b _ h (fun e => hne (Option.some.inj e)) fun _ _ e => ht (by injection e)
theorem At.box {w : World} {b : Nat} {cs : Array Value} {t : TypeId} (h : At w b cs t) : Box w b cs := ⟨(Array.getElem?_eq_some_iff.1 h).1, fun i => cell_of_row _ _ i cs t (0, 0) h⟩
/-- Numbers that fit. -/
def fits (n : Int) : Prop := -9223372036854775808 ≤ n ∧ n ≤ 9223372036854775807
def fitsE (e : Ent) : Prop := fits e.1 ∧ fits e.2.1 ∧ fits e.2.2.1.1 ∧ fits e.2.2.1.2.1 ∧ fits e.2.2.1.2.2
theorem fits_small {n : Int} (h0 : 0 ≤ n) (h1 : n ≤ 1000000) : fits n := ⟨by omega, by omega⟩
theorem small_fits {e : Ent} (h : smallE e) : fitsE e := by
  obtain ⟨⟨a, b⟩, ⟨c, d⟩, ⟨f, g⟩, ⟨i, j⟩, k, l⟩ := h
  exact ⟨fits_small a (by omega), fits_small c (by omega), fits_small f (by omega), fits_small i (by omega), fits_small k (by omega)⟩
/-- The library's table is there. -/
abbrev Tab (w : World) : Prop := Lib.TabIs Tryz.prog w "internal/strconv.uint64pow10" .u64 Lib.pow10Tab
theorem tab_glob : Tryz.prog.globalNamed "internal/strconv.uint64pow10" = some 4 := by kernel_rfl
theorem tab_size {w : World} (h : Tab w) : 4 < w.heap.size := by
  simp only [Tab, Lib.TabIs, World.var?, tab_glob, Option.bind_some] at h
  rcases Nat.lt_or_ge 4 w.heap.size with h1 | h1
  · exact h1
  · rw [Array.getElem?_eq_none h1] at h; cases h
theorem tab_kept {w w' : World} {b : Nat} (h : Tab w) (hb : Below b w w') (hk : 4 < b) : Tab w' := by
  simp only [Tab, Lib.TabIs, World.var?, tab_glob, Option.bind_some] at h ⊢
  rw [hb.block 4 hk]
  exact h
theorem tab_below {w w' : World} (h : Tab w) (hb : Below w.heap.size w w') : Tab w' := tab_kept h hb (tab_size h)
theorem itoa_any (n : Int) (w : World) (h : fits n) (ht : Tab w) : Calls Tryz.prog 59 #[.int .i64 n] w fun r w' => r = .returned (.string ⟨(Lib.itoa n).toArray⟩) ∧ Below w.heap.size w w' :=
  (Tryz.strconv_Itoa n h.1 h.2 w ht).mono fun r w' ⟨h1, k, os, h2⟩ => ⟨h1, by rw [h2]; exact below_drewGrow w k os⟩
theorem itoa_len {n : Int} (h : fits n) : (Lib.itoa n).length ≤ 21 := Lib.itoa_length_le n h.1 h.2
end Go.Proofs.YtnlhllleipemlaaGreatDoor

namespace Go.Proofs.YtnlhllleipemlaaGreatDoor
open Go.RowKit Go.Extern.Stop Go.Stop Go.Extern

theorem as_nil (t : Value) (w : World) :
    Calls Tryz.prog 22 #[.nilIface, t] w fun e w' => e = .returned (.bool false) ∧ w' = w := by
  go_enter Tryz.func22, Tryz.ntmps22
  go_wp2
  go_ret
  exact ⟨rfl, rfl⟩
theorem zvalueOf58 (t : Addr) (w : World) : (ReflectliteValue.unpack (.iface 58 (.pointer (some t)))).run Tryz.prog w
    = .ok (.agg #[.pointer (some ⟨9, 58, none⟩), .pointer (some ⟨w.heap.size, 0, none⟩), .int .u64 150]) (w.alloc (.cells #[.pointer (some t)] 58)) := by kernel_rfl
theorem zvalueOf56 (s : ByteArray) (w : World) : (ReflectliteValue.unpack (.iface 56 (.agg #[.string s]))).run Tryz.prog w
    = .ok (.agg #[.pointer (some ⟨9, 56, none⟩), .pointer (some ⟨w.heap.size, 0, none⟩), .int .u64 153]) (w.alloc (.cells #[.string s] 56)) := by kernel_rfl
theorem ztype58 (a : Addr) (w : World) : (ReflectliteValue.methodAny (ReflectliteValue.valueError "reflectlite.Value.Type" 0) (fun t _ _ _ => ReflectliteType.toType t) #[.agg #[.pointer (some ⟨9, 58, none⟩), .pointer (some a), .int .u64 150]]).run Tryz.prog w
    = .ok (.iface 118 (.agg #[.pointer (some ⟨9, 58, none⟩)])) w := by kernel_rfl
theorem zkind58 (w : World) : ((ReflectliteType.abiMethod fun t => (fun a : Nat => Value.int IntKind.u8 (a : Int)) <$> Rtype.kind t) #[.pointer (some ⟨9, 58, none⟩)]).run Tryz.prog w = .ok (.int .u8 22) w := by kernel_rfl
theorem zkind56 (w : World) : ((ReflectliteType.abiMethod fun t => (fun a : Nat => Value.int IntKind.u8 (a : Int)) <$> Rtype.kind t) #[.pointer (some ⟨9, 56, none⟩)]).run Tryz.prog w = .ok (.int .u8 25) w := by kernel_rfl
theorem rlm (z : Sem Value) (f : TypeId → Addr → Nat → Nat → Sem Value) (v : Value) :
    ReflectliteValue.method z f #[v] = (do match ← ReflectliteValue.parts v with | none => z | some (t, a, fl) => f t a fl (fl % 32)) := rfl
theorem zparts58 (a : Addr) (w : World) : (ReflectliteValue.parts (.agg #[.pointer (some ⟨9, 58, none⟩), .pointer (some a), .int .u64 150])).run Tryz.prog w = .ok (some (58, a, 150)) w := by kernel_rfl
theorem zisNil58 (a p : Addr) (W : World) (ha : W.cell? a = some (.pointer (some p))) :
    (ReflectliteValue.method (ReflectliteValue.valueError "reflectlite.Value.IsNil" 0) ReflectliteValue.isNil #[.agg #[.pointer (some ⟨9, 58, none⟩), .pointer (some a), .int .u64 150]]).run Tryz.prog W = .ok (.bool false) W := by
  rw [rlm]
  simp only [Sem.run_bind, zparts58, Result.andThen]
  simp [ReflectliteValue.isNil, loadVar, isAgg, underlying, Tryz.underlying58, ha, Result.andThen]
theorem zelem58 (w : World) : (ReflectliteType.method ReflectliteType.elem #[.agg #[.pointer (some ⟨9, 58, none⟩)]]).run Tryz.prog w = .ok (.iface 118 (.agg #[.pointer (some ⟨9, 56, none⟩)])) w := by kernel_rfl
theorem zimplements56 (w : World) : (ReflectliteType.relation "Implements" ReflectliteType.implements_ #[.agg #[.pointer (some ⟨9, 56, none⟩)], .iface 118 (.agg #[.pointer (some ⟨9, 52, none⟩)])]).run Tryz.prog w = .ok (.bool true) w := by kernel_rfl
theorem ztypeOf56 (v : Value) (w : World) : (ReflectliteType.typeOf #[.iface 56 v]).run Tryz.prog w = .ok (.iface 118 (.agg #[.pointer (some ⟨9, 56, none⟩)])) w := by kernel_rfl
theorem ztypeOf114 (v : Value) (w : World) : (ReflectliteType.typeOf #[.iface 114 v]).run Tryz.prog w = .ok (.iface 118 (.agg #[.pointer (some ⟨9, 114, none⟩)])) w := by kernel_rfl
theorem zassignable56 (w : World) : (ReflectliteType.relation "AssignableTo" ReflectliteType.assignableTo #[.agg #[.pointer (some ⟨9, 56, none⟩)], .iface 118 (.agg #[.pointer (some ⟨9, 56, none⟩)])]).run Tryz.prog w = .ok (.bool true) w := by kernel_rfl
theorem zassignable114 (w : World) : (ReflectliteType.relation "AssignableTo" ReflectliteType.assignableTo #[.agg #[.pointer (some ⟨9, 114, none⟩)], .iface 118 (.agg #[.pointer (some ⟨9, 56, none⟩)])]).run Tryz.prog w = .ok (.bool false) w := by kernel_rfl
theorem zelemOf58 (w : World) : (Rtype.elem? 58).run Tryz.prog w = .ok (some 56) w := by kernel_rfl
theorem zmk56 (p : Addr) (w : World) : (ReflectliteValue.mk 56 p ReflectliteValue.flagAddr).run Tryz.prog w = .ok (.agg #[.pointer (some ⟨9, 56, none⟩), .pointer (some p), .int .u64 409]) w := by kernel_rfl
theorem zelemV58 (a p : Addr) (W : World) (ha : W.cell? a = some (.pointer (some p))) :
    (ReflectliteValue.method (ReflectliteValue.valueError "reflectlite.Value.Elem" 0) ReflectliteValue.elem #[.agg #[.pointer (some ⟨9, 58, none⟩), .pointer (some a), .int .u64 150]]).run Tryz.prog W
      = .ok (.agg #[.pointer (some ⟨9, 56, none⟩), .pointer (some p), .int .u64 409]) W := by
  rw [rlm]
  simp only [Sem.run_bind, zparts58, Result.andThen]
  simp [ReflectliteValue.elem, loadVar, isAgg, underlying, Tryz.underlying58, ha, Result.andThen, zelemOf58, zmk56]
theorem rls (v x : Value) : ReflectliteValue.set #[v, x] = (do
    let (some (dst, a, fl), some (src, b, _)) := (← ReflectliteValue.parts v, ← ReflectliteValue.parts x)
      | unsupported (.noEntry "extern/(internal/reflectlite.Value).Set.zeroValue")
    if fl / ReflectliteValue.flagAddr % 2 == 0 then unsupported (.noEntry "extern/(internal/reflectlite.Value).Set.unaddressable")
    let val ← loadVar src b
    if ← Rtype.directlyAssignable dst src then storeVar dst a val
    else if ← Rtype.implements dst src then
      if (← Rtype.kind src) == 20 then
        match val with
        | .nilIface => unsupported (.noEntry "extern/reflectlite: a nil value of one interface type handed on as a value of another")
        | _ => storeVar dst a val
      else storeVar dst a (.iface src val)
    else panicString ("reflectlite.Set: value of type " ++ (← Rtype.spelt src) ++ " is not assignable to type " ++ (← Rtype.spelt dst))
    pure (.tuple #[])) := rfl
theorem zparts56a (a : Addr) (w : World) : (ReflectliteValue.parts (.agg #[.pointer (some ⟨9, 56, none⟩), .pointer (some a), .int .u64 409])).run Tryz.prog w = .ok (some (56, a, 409)) w := by kernel_rfl
theorem zparts56 (a : Addr) (w : World) : (ReflectliteValue.parts (.agg #[.pointer (some ⟨9, 56, none⟩), .pointer (some a), .int .u64 153])).run Tryz.prog w = .ok (some (56, a, 153)) w := by kernel_rfl
theorem zdirect56 (w : World) : (Rtype.directlyAssignable 56 56).run Tryz.prog w = .ok true w := by kernel_rfl
theorem zload1 (b : Nat) (s : ByteArray) (W : World) (hb : W.cell? ⟨b, 0, none⟩ = some (.string s)) : (loadCells ⟨b, 0, none⟩ 1).run Tryz.prog W = .ok #[.string s] W := by
  go_simp
theorem zset56 (tb b : Nat) (s : ByteArray) (old : Value) (W : World) (hb : W.cell? ⟨b, 0, none⟩ = some (.string s)) (ht : W.cell? ⟨tb, 0, none⟩ = some old) (hf : W.frozen? ⟨tb, 0, none⟩ = false) :
    (ReflectliteValue.set #[.agg #[.pointer (some ⟨9, 56, none⟩), .pointer (some ⟨tb, 0, none⟩), .int .u64 409], .agg #[.pointer (some ⟨9, 56, none⟩), .pointer (some ⟨b, 0, none⟩), .int .u64 153]]).run Tryz.prog W
      = .ok (.tuple #[]) (W.setCell ⟨tb, 0, none⟩ (.string s)) := by
  rw [rls]
  simp only [Sem.run_bind, zparts56a, zparts56, Result.andThen]
  simp [ReflectliteValue.flagAddr, loadVar, isAgg, underlying, Tryz.underlying56, Result.andThen, zdirect56, storeVar, Value.cells, storeCells, Addr.add]
  rw [zload1 b s W hb]
  simp [storeCells, Addr.add]
  rw [run_store Tryz.prog W ⟨tb, 0, none⟩ _ _ (by rfl)]
  simp [ht, hf]
theorem zmA (h : Value) (w : World) : (Go.method 330 118 (.agg #[h]) "AssignableTo").run Tryz.prog w = .ok (170, .agg #[h]) w := by kernel_rfl
theorem zmE (h : Value) (w : World) : (Go.method 330 118 (.agg #[h]) "Elem").run Tryz.prog w = .ok (172, .agg #[h]) w := by kernel_rfl
theorem zmI (h : Value) (w : World) : (Go.method 330 118 (.agg #[h]) "Implements").run Tryz.prog w = .ok (173, .agg #[h]) w := by kernel_rfl
theorem zmK (h : Value) (w : World) : (Go.method 330 118 (.agg #[h]) "Kind").run Tryz.prog w = .ok (159, h) w := by kernel_rfl
theorem zmU (h : Value) (w : World) : (Go.method 330 114 h "Unwrap").run Tryz.prog w = .ok (168, h) w := by kernel_rfl
theorem zno123 (v : Value) (w : World) : (Instr.typeAssert (.iface 114 v) 52 123 true).run Tryz.prog w = .ok (.tuple #[.nilIface, .bool false]) w := run_typeAssert_lacksB Tryz.underlying123 (by kernel_rfl) (by kernel_rfl) v 52 w
theorem zno126 (v : Value) (w : World) : (Instr.typeAssert (.iface 114 v) 52 126 true).run Tryz.prog w = .ok (.tuple #[.nilIface, .bool false]) w := run_typeAssert_lacksB Tryz.underlying126 (by kernel_rfl) (by kernel_rfl) v 52 w
theorem zhas128 (v : Value) (w : World) : (Instr.typeAssert (.iface 114 v) 52 128 true).run Tryz.prog w = .ok (.tuple #[.iface 114 v, .bool true]) w := run_typeAssert_hasB Tryz.underlying128 (by kernel_rfl) v 52 w
end Go.Proofs.YtnlhllleipemlaaGreatDoor

namespace Go.Proofs.YtnlhllleipemlaaGreatDoor
open Go.RowKit Go.Extern.Stop Go.Stop Go.Extern

/-- The Value of the target. -/
abbrev vT (B : Nat) : Value := .agg #[.pointer (some ⟨9, 58, none⟩), .pointer (some ⟨B, 0, none⟩), .int .u64 150]
abbrev tT : Value := .iface 118 (.agg #[.pointer (some ⟨9, 56, none⟩)])
set_option maxRecDepth 100000 in
set_option maxHeartbeats 4000000 in
theorem as_torn (s : ByteArray) (T B : Nat) (old : Value) (w : World) (hB : w.cell? ⟨B, 0, none⟩ = some (.pointer (some ⟨T, 0, none⟩))) (ht : w.cell? ⟨T, 0, none⟩ = some old) (hf : w.frozen? ⟨T, 0, none⟩ = false) :
    Calls Tryz.prog 46 #[.iface 56 (.agg #[.string s]), .iface 58 (.pointer (some ⟨T, 0, none⟩)), vT B, tT] w fun e w' => e = .returned (.bool true) ∧ Below T w w' := by
  have h43 := @run_callFunc_extern Tryz.prog 43 _ (fun args => ReflectliteValue.unpack (args.getD 0 (.tuple #[]))) Tryz.func43 (by kernel_rfl) (by kernel_rfl) (by kernel_rfl) (by kernel_rfl)
  have h69 := @run_callFunc_extern Tryz.prog 69 _ ReflectliteType.typeOf Tryz.func69 (by kernel_rfl) (by kernel_rfl) (by kernel_rfl) (by kernel_rfl)
  have h170 := @run_callFunc_extern Tryz.prog 170 _ (ReflectliteType.relation "AssignableTo" ReflectliteType.assignableTo) Tryz.func170 (by kernel_rfl) (by kernel_rfl) (by kernel_rfl) (by kernel_rfl)
  have h70 := @run_callFunc_extern Tryz.prog 70 _ (ReflectliteValue.method (ReflectliteValue.valueError "reflectlite.Value.Elem" 0) ReflectliteValue.elem) Tryz.func70 (by kernel_rfl) (by kernel_rfl) (by kernel_rfl) (by kernel_rfl)
  have h71 := @run_callFunc_extern Tryz.prog 71 _ ReflectliteValue.set Tryz.func71 (by kernel_rfl) (by kernel_rfl) (by kernel_rfl) (by kernel_rfl)
  have tO := ztypeOf56
  have a56 := zassignable56
  have v56 := zvalueOf56
  have mA := zmA
  have hBl : B < w.heap.size := World.block_lt_of_cell? _ _ hB
  have hTl : T < w.heap.size := World.block_lt_of_cell? _ _ ht
  have el := zelemV58 ⟨B, 0, none⟩ ⟨T, 0, none⟩ (w.alloc (.cells #[.pointer (some ⟨9, 58, none⟩), .pointer (some ⟨B, 0, none⟩), .int .u64 150] 84)) (by rw [World.cell?_alloc_lt _ _ ⟨B, 0, none⟩ hBl]; exact hB)
  have st := zset56 T (w.heap.size + 1) s old ((w.alloc (.cells #[.pointer (some ⟨9, 58, none⟩), .pointer (some ⟨B, 0, none⟩), .int .u64 150] 84)).alloc (.cells #[.string s] 56))
    (by rw [World.cell?_alloc_at _ _ _ _ (by simp)]; rfl)
    (by rw [World.cell?_alloc_lt _ _ ⟨T, 0, none⟩ (by simp; omega), World.cell?_alloc_lt _ _ ⟨T, 0, none⟩ hTl]; exact ht)
    (by rw [World.frozen?_alloc_old _ _ ⟨T, 0, none⟩ (by simp; omega), World.frozen?_alloc_old _ _ ⟨T, 0, none⟩ (Nat.ne_of_lt hTl)]; exact hf)
  unfold vT tT
  go_enter Tryz.func46, Tryz.ntmps46
  go_wp2
  refine wp_loop_rounds 1 ?_
  rw [rounds_succ]
  go_wp2
  go_ret
  exact ⟨rfl, (((Below.refl _ _).setCell (p := ⟨T, 0, none⟩) (Nat.le_refl _) _).alloc (by show T ≤ _; rw [size_set]; omega) _).alloc (by show T ≤ _; rw [World.size_alloc, size_set]; omega) _⟩
/-- The program's own error around others. -/
structure Joined (s : ByteArray) (w : World) (J : Nat) : Prop where
  ex : ∃ R c, w.cell? ⟨J, 0, none⟩ = some (.slice (some ⟨R, 0, none⟩) 2 c) ∧ w.cell? ⟨R, 0, none⟩ = some (.iface 56 (.agg #[.string s]))
theorem Joined.on {s : ByteArray} {w w' : World} {J : Nat} (h : Joined s w J) (hb : Below w.heap.size w w') : Joined s w' J := by
  obtain ⟨R, c, h1, h2⟩ := h.ex
  exact ⟨R, c, (hb.cell (World.block_lt_of_cell? _ _ h1)).trans h1, (hb.cell (World.block_lt_of_cell? _ _ h2)).trans h2⟩
theorem unwrap_any (J R c : Nat) (w : World) (h : w.cell? ⟨J, 0, none⟩ = some (.slice (some ⟨R, 0, none⟩) 2 c)) : Calls Tryz.prog 168 #[.pointer (some ⟨J, 0, none⟩)] w fun e w' => e = .returned (.slice (some ⟨R, 0, none⟩) 2 c) ∧ w' = w := by
  go_enter Tryz.func168, Tryz.ntmps168
  go_wp2_with fail
  go_ret
  exact ⟨rfl, rfl⟩
theorem ixE {ad : Addr} {n c k : Nat} (hk : k < n) (w : World) : (Instr.indexAt 113 (.slice (some ad) n c) (.int .i64 (k : Int))).run Tryz.prog w = .ok (.pointer (some (ad.add k))) w := by
  have h0 : (0 : Int) ≤ (k : Int) ∧ (k : Int) < (n : Int) := by omega
  have hs : (sizeOf (Tryz.prog.elem 113)).run Tryz.prog w = .ok 1 w := by kernel_rfl
  rw [run_indexAt_slice w 113 ad n c .i64 k (by kernel_rfl), if_pos h0, hs]
  simp [Result.andThen]
set_option maxRecDepth 100000 in
set_option maxHeartbeats 4000000 in
theorem as_join (s : ByteArray) (J T B : Nat) (old : Value) (w : World) (hJ : Joined s w J) (hB : w.cell? ⟨B, 0, none⟩ = some (.pointer (some ⟨T, 0, none⟩))) (ht : w.cell? ⟨T, 0, none⟩ = some old) (hf : w.frozen? ⟨T, 0, none⟩ = false) :
    Calls Tryz.prog 46 #[.iface 114 (.pointer (some ⟨J, 0, none⟩)), .iface 58 (.pointer (some ⟨T, 0, none⟩)), vT B, tT] w fun e w' => e = .returned (.bool true) ∧ Below T w w' := by
  have h43 := @run_callFunc_extern Tryz.prog 43 _ (fun args => ReflectliteValue.unpack (args.getD 0 (.tuple #[]))) Tryz.func43 (by kernel_rfl) (by kernel_rfl) (by kernel_rfl) (by kernel_rfl)
  have h69 := @run_callFunc_extern Tryz.prog 69 _ ReflectliteType.typeOf Tryz.func69 (by kernel_rfl) (by kernel_rfl) (by kernel_rfl) (by kernel_rfl)
  have h170 := @run_callFunc_extern Tryz.prog 170 _ (ReflectliteType.relation "AssignableTo" ReflectliteType.assignableTo) Tryz.func170 (by kernel_rfl) (by kernel_rfl) (by kernel_rfl) (by kernel_rfl)
  have h70 := @run_callFunc_extern Tryz.prog 70 _ (ReflectliteValue.method (ReflectliteValue.valueError "reflectlite.Value.Elem" 0) ReflectliteValue.elem) Tryz.func70 (by kernel_rfl) (by kernel_rfl) (by kernel_rfl) (by kernel_rfl)
  have h71 := @run_callFunc_extern Tryz.prog 71 _ ReflectliteValue.set Tryz.func71 (by kernel_rfl) (by kernel_rfl) (by kernel_rfl) (by kernel_rfl)
  have tO := ztypeOf114
  have a56 := zassignable114
  have mA := zmA
  have mU := zmU
  have n123 := zno123
  have n126 := zno126
  have n128 := zhas128
  have hBl : B < w.heap.size := World.block_lt_of_cell? _ _ hB
  have hTl : T < w.heap.size := World.block_lt_of_cell? _ _ ht
  obtain ⟨R, c, j1, j2⟩ := hJ.ex
  have HB0 := Lib.hid (belowA w (.cells #[.pointer (some ⟨9, 58, none⟩), .pointer (some ⟨B, 0, none⟩), .int .u64 150] 84))
  have K1 := as_torn s T B old (w.alloc (.cells #[.pointer (some ⟨9, 58, none⟩), .pointer (some ⟨B, 0, none⟩), .int .u64 150] 84)) ((HB0.out.cell (p := ⟨B, 0, none⟩) hBl).trans hB) ((HB0.out.cell (p := ⟨T, 0, none⟩) hTl).trans ht) ((HB0.out.frozen (p := ⟨T, 0, none⟩) hTl).trans hf)
  have HK1 := Lib.hid K1
  have e1 := (HB0.out.cell (p := ⟨J, 0, none⟩) (World.block_lt_of_cell? _ _ j1)).trans j1
  have e2 := (HB0.out.cell (p := ⟨R, 0, none⟩) (World.block_lt_of_cell? _ _ j2)).trans j2
  have X := fun w' => ixE (ad := ⟨R, 0, none⟩) (n := 2) (c := c) (k := 0) (by omega) w'
  clear K1 j1 j2 hJ hB ht hf
  unfold vT tT at *
  go_enter Tryz.func46, Tryz.ntmps46
  go_wp2
  refine wp_loop_rounds 1 ?_
  rw [rounds_succ]
  go_wp2_with fail
  with_reducible refine (unwrap_any J R c _ e1).mono ?_
  rintro _ _ ⟨rfl, rfl⟩
  go_wp2_with fail
  refine wp_loop_rounds 1 ?_
  rw [rounds_succ]
  go_wp2_with fail
  with_reducible refine HK1.out.mono ?_
  rintro _ w4 ⟨rfl, hb4⟩
  have HB4 : Hid (Below T w w4) := Lib.hid ((HB0.out.mono (Nat.le_of_lt hTl)).trans hb4)
  clear hb4
  go_wp2_with fail
  go_ret
  exact ⟨rfl, HB4.out⟩
/-- The library's variable of the type of errors. -/
abbrev ETy (w : World) : Prop := w.cell? ⟨0, 0, none⟩ = some (.iface 118 (.agg #[.pointer (some ⟨9, 52, none⟩)]))
set_option maxRecDepth 100000 in
set_option maxHeartbeats 4000000 in
theorem As_any (u : TypeId) (x : Value) (T : Nat) (w : World) (hE : ETy w) (hT : T < w.heap.size)
    (K : ∀ B W, Below w.heap.size w W → W.cell? ⟨B, 0, none⟩ = some (.pointer (some ⟨T, 0, none⟩)) → Calls Tryz.prog 46 #[.iface u x, .iface 58 (.pointer (some ⟨T, 0, none⟩)), vT B, tT] W fun e w' => e = .returned (.bool true) ∧ Below T W w') :
    Calls Tryz.prog 22 #[.iface u x, .iface 58 (.pointer (some ⟨T, 0, none⟩))] w fun e w' => e = .returned (.bool true) ∧ Below T w w' := by
  have h43 := @run_callFunc_extern Tryz.prog 43 _ (fun args => ReflectliteValue.unpack (args.getD 0 (.tuple #[]))) Tryz.func43 (by kernel_rfl) (by kernel_rfl) (by kernel_rfl) (by kernel_rfl)
  have h44 := @run_callFunc_extern Tryz.prog 44 _ (ReflectliteValue.methodAny (ReflectliteValue.valueError "reflectlite.Value.Type" 0) (fun t _ _ _ => ReflectliteType.toType t)) Tryz.func44 (by kernel_rfl) (by kernel_rfl) (by kernel_rfl) (by kernel_rfl)
  have h45 := @run_callFunc_extern Tryz.prog 45 _ (ReflectliteValue.method (ReflectliteValue.valueError "reflectlite.Value.IsNil" 0) ReflectliteValue.isNil) Tryz.func45 (by kernel_rfl) (by kernel_rfl) (by kernel_rfl) (by kernel_rfl)
  have h159 := @run_callFunc_extern Tryz.prog 159 _ (ReflectliteType.abiMethod fun t => do pure (.int .u8 (← Rtype.kind t))) Tryz.func159 (by kernel_rfl) (by kernel_rfl) (by kernel_rfl) (by kernel_rfl)
  have h172 := @run_callFunc_extern Tryz.prog 172 _ (ReflectliteType.method ReflectliteType.elem) Tryz.func172 (by kernel_rfl) (by kernel_rfl) (by kernel_rfl) (by kernel_rfl)
  have h173 := @run_callFunc_extern Tryz.prog 173 _ (ReflectliteType.relation "Implements" ReflectliteType.implements_) Tryz.func173 (by kernel_rfl) (by kernel_rfl) (by kernel_rfl) (by kernel_rfl)
  have f43 := zvalueOf58
  have f44 := ztype58
  have mK := zmK
  have mE := zmE
  have mI := zmI
  have k58 := zkind58
  have k56 := zkind56
  have e58 := zelem58
  have i56 := zimplements56
  have n45 := zisNil58 ⟨w.heap.size, 0, none⟩ ⟨T, 0, none⟩ ((w.alloc (.cells #[.pointer (some ⟨T, 0, none⟩)] 58)).alloc (.cells #[.pointer (some ⟨9, 58, none⟩), .pointer (some ⟨w.heap.size, 0, none⟩), .int .u64 150] 84)) (by simp)
  have hlt : 0 < w.heap.size := by omega
  have hb2 := belowAA w (.cells #[.pointer (some ⟨T, 0, none⟩)] 58) (.cells #[.pointer (some ⟨9, 58, none⟩), .pointer (some ⟨w.heap.size, 0, none⟩), .int .u64 150] 84)
  have hg2 : ((w.alloc (.cells #[.pointer (some ⟨T, 0, none⟩)] 58)).alloc (.cells #[.pointer (some ⟨9, 58, none⟩), .pointer (some ⟨w.heap.size, 0, none⟩), .int .u64 150] 84)).cell? ⟨0, 0, none⟩ = some (.iface 118 (.agg #[.pointer (some ⟨9, 52, none⟩)])) := (hb2.cell (p := ⟨0, 0, none⟩) hlt).trans hE
  have HK := Lib.hid (K w.heap.size _ hb2 (by simp))
  have HB2 : Hid (Below T w _) := Lib.hid (hb2.mono (Nat.le_of_lt hT))
  clear K hE hb2
  unfold vT tT at *
  go_enter Tryz.func22, Tryz.ntmps22
  go_wp2_with fail
  with_reducible refine HK.out.mono ?_
  rintro _ w4 ⟨rfl, hb4⟩
  have HB4 := Lib.hid (HB2.out.trans hb4)
  clear hb4
  go_wp2_with fail
  go_ret
  exact ⟨rfl, HB4.out⟩
/-- The target's variable. -/
structure Tgt (w : World) (T : Nat) : Prop where
  ex : ∃ old, w.cell? ⟨T, 0, none⟩ = some old
  fz : w.frozen? ⟨T, 0, none⟩ = false
theorem Tgt.lt {w : World} {T : Nat} (h : Tgt w T) : T < w.heap.size := h.ex.elim fun _ h => World.block_lt_of_cell? _ _ h
theorem Tgt.on {w w' : World} {T : Nat} (h : Tgt w T) (hb : Below w.heap.size w w') : Tgt w' T :=
  ⟨h.ex.elim fun o ho => ⟨o, (hb.cell (p := ⟨T, 0, none⟩) h.lt).trans ho⟩, (hb.frozen (p := ⟨T, 0, none⟩) h.lt).trans h.fz⟩
/-- An error of the program's reading of a line. -/
def ErrV (s : ByteArray) (w : World) (v : Value) : Prop := v = .iface 56 (.agg #[.string s]) ∨ ∃ J, v = .iface 114 (.pointer (some ⟨J, 0, none⟩)) ∧ Joined s w J
theorem ErrV.on {s : ByteArray} {w w' : World} {v : Value} (h : ErrV s w v) (hb : Below w.heap.size w w') : ErrV s w' v := by
  rcases h with h | ⟨J, h1, h2⟩
  · exact .inl h
  · exact .inr ⟨J, h1, h2.on hb⟩
theorem As_err (s : ByteArray) (v : Value) (T : Nat) (w : World) (hE : ETy w) (hT : Tgt w T) (hv : ErrV s w v) :
    Calls Tryz.prog 22 #[v, .iface 58 (.pointer (some ⟨T, 0, none⟩))] w fun e w' => e = .returned (.bool true) ∧ Below T w w' := by
  rcases hv with rfl | ⟨J, rfl, hJ⟩
  · exact As_any 56 _ T w hE hT.lt fun B W hb hB => by
      obtain ⟨old, ho⟩ := (hT.on hb).ex
      exact as_torn s T B old W hB ho (hT.on hb).fz
  · exact As_any 114 _ T w hE hT.lt fun B W hb hB => by
      obtain ⟨old, ho⟩ := (hT.on hb).ex
      exact as_join s J T B old W (hJ.on hb) hB ho (hT.on hb).fz
end Go.Proofs.YtnlhllleipemlaaGreatDoor

namespace Go.Proofs.YtnlhllleipemlaaGreatDoor
open Go.RowKit Go.Sort

theorem appB (a b : List UInt8) : (⟨a.toArray⟩ : ByteArray) ++ (⟨b.toArray⟩ : ByteArray) = ⟨(a ++ b).toArray⟩ := by
  apply ByteArray.ext
  rw [ByteArray.data_append]
  simp
def nums (e : Ent) : List Int := [e.1, e.2.1, e.2.2.1.1, e.2.2.1.2.1, e.2.2.1.2.2]
def headL (e : Ent) (k : Nat) : List UInt8 := ((nums e).take k).flatMap fun n => Lib.itoa n ++ [32]
theorem headL_zero (e : Ent) : headL e 0 = [] := rfl
theorem headL_succ {e : Ent} {k : Nat} {z : Int} (h : (nums e)[k]? = some z) : headL e (k + 1) = headL e k ++ (Lib.itoa z ++ [32]) := by
  unfold headL
  rw [take_succ_of h, List.flatMap_append]
  simp
theorem headL_five (e : Ent) : headL e 5 ++ e.2.2.2.data.toList = bodyL e := by
  simp [headL, nums, bodyL]
theorem nums_fits {e : Ent} (h : fitsE e) {k : Nat} {z : Int} (hz : (nums e)[k]? = some z) : fits z := by
  have := List.mem_of_getElem? hz
  simp only [nums, List.mem_cons, List.not_mem_nil, or_false] at this
  obtain ⟨h1, h2, h3, h4, h5⟩ := h
  rcases this with rfl | rfl | rfl | rfl | rfl <;> assumption
theorem headL_len {e : Ent} (h : fitsE e) : ∀ k, (headL e k).length ≤ 22 * k
  | 0 => Nat.le_refl _
  | k + 1 => by
    have ih := headL_len h k
    cases hz : (nums e)[k]? with
    | some z =>
      rw [headL_succ hz, List.length_append, List.length_append]
      have := itoa_len (nums_fits h hz)
      simp
      omega
    | none =>
      have : (nums e).take (k + 1) = (nums e).take k := by
        rw [List.getElem?_eq_none_iff] at hz
        rw [List.take_of_length_le (by omega), List.take_of_length_le (by omega)]
      unfold headL at ih ⊢
      rw [this]
      omega
/-- What lies there where a line is written. -/
structure Ln (e : Ent) (w : World) (k : Nat) (wr : World) : Prop where
  str : At wr w.heap.size #[.int .i64 e.1, .int .i64 e.2.1, .int .i64 e.2.2.1.1, .int .i64 e.2.2.1.2.1, .int .i64 e.2.2.1.2.2, .string e.2.2.2] 48
  bld : isB wr (w.heap.size + 1) (w.heap.size + 1) (headL e k)
  row : At wr (w.heap.size + 2) #[.int .i64 e.1, .int .i64 e.2.1, .int .i64 e.2.2.1.1, .int .i64 e.2.2.1.2.1, .int .i64 e.2.2.1.2.2] 3
  bel : Below w.heap.size w wr
theorem Ln.new (e : Ent) (w : World) : Ln e w 0 (((w.alloc (.cells #[.int .i64 e.1, .int .i64 e.2.1, .int .i64 e.2.2.1.1, .int .i64 e.2.2.1.2.1, .int .i64 e.2.2.1.2.2, .string e.2.2.2] 48)).alloc (.cells #[.pointer none, .slice none 0 0] 99)).alloc (.cells #[.int .i64 e.1, .int .i64 e.2.1, .int .i64 e.2.2.1.1, .int .i64 e.2.2.1.2.1, .int .i64 e.2.2.1.2.2] 3)) := by
  refine ⟨?_, ?_, ?_, ?_⟩
  · exact (At.below (heap_alloc_new w _) (belowA _ _)).below (belowA _ _)
  · have := isB_new (w.alloc (.cells #[.int .i64 e.1, .int .i64 e.2.1, .int .i64 e.2.2.1.1, .int .i64 e.2.2.1.2.1, .int .i64 e.2.2.1.2.2, .string e.2.2.2] 48))
    rw [World.size_alloc] at this
    exact isB_below this (belowA _ _)
  · have := heap_alloc_new ((w.alloc (.cells #[.int .i64 e.1, .int .i64 e.2.1, .int .i64 e.2.2.1.1, .int .i64 e.2.2.1.2.1, .int .i64 e.2.2.1.2.2, .string e.2.2.2] 48)).alloc (.cells #[.pointer none, .slice none 0 0] 99)) (.cells #[.int .i64 e.1, .int .i64 e.2.1, .int .i64 e.2.2.1.1, .int .i64 e.2.2.1.2.1, .int .i64 e.2.2.1.2.2] 3)
    rw [World.size_alloc, World.size_alloc] at this
    exact this
  · exact below_trans' (belowAA _ _ _) (belowA _ _)
theorem Ln.on {e : Ent} {w wr w' : World} {k : Nat} (h : Ln e w k wr) (hb : Below wr.heap.size wr w') : Ln e w k w' :=
  ⟨h.str.below hb, isB_below h.bld hb, h.row.below hb, below_trans' h.bel hb⟩
theorem Ln.put {e : Ent} {w wr w' : World} {k : Nat} (h : Ln e w k wr) (h1 : isB w' (w.heap.size + 1) (w.heap.size + 1) (headL e (k + 1))) (h2 : Below (w.heap.size + 1) wr w') (h3 : Lib.OthersKept 5 (some (w.heap.size + 1)) wr w') : Ln e w (k + 1) w' :=
  ⟨At.kept h.str h3 (Nat.ne_of_lt (Nat.lt_succ_self _)) (by decide), h1, At.kept h.row h3 (Nat.ne_of_gt (Nat.lt_succ_self _)) (by decide), h.bel.trans (h2.mono (by omega))⟩
/-- What lies there while the parts of a line are put together. -/
structure Sg (w : World) (l : List UInt8) (wr W : World) : Prop where
  bel : Below (w.heap.size + 1) wr W
  bld : Lib.IsBuilderF 99 5 (w.heap.size + 1) (w.heap.size + 1) (Lib.byteCells l) W
def Rg (w : World) (l : List UInt8) (u v : World) : Prop := Below (w.heap.size + 1) u v ∧ (Lib.IsBuilderF 99 5 (w.heap.size + 1) (w.heap.size + 1) (Lib.byteCells l) u → Lib.IsBuilderF 99 5 (w.heap.size + 1) (w.heap.size + 1) (Lib.byteCells l) v)
theorem Rg.refl {w0 : World} {l : List UInt8} (w : World) : Rg w0 l w w := ⟨Below.refl _ _, id⟩
theorem Rg.trans {w0 : World} {l : List UInt8} {u v w : World} (h : Rg w0 l u v) (k : Rg w0 l v w) : Rg w0 l u w := ⟨h.1.trans k.1, fun x => k.2 (h.2 x)⟩
theorem Rg.drew {w0 : World} {l : List UInt8} {w : World} : Rg w0 l w w.drew := ⟨below_drewN' (Below.refl _ _) 1, id⟩
theorem Sg.on {w : World} {l : List UInt8} {wr W W' : World} (h : Sg w l wr W) (k : Rg w l W W') : Sg w l wr W' := ⟨h.bel.trans k.1, k.2 h.bld⟩
theorem Sg.box {e : Ent} {w : World} {l : List UInt8} {wr W : World} {k : Nat} (h : Sg w l wr W) (hl : Ln e w k wr) : ∀ i, W.cell? ⟨w.heap.size, i, none⟩ = (#[.int .i64 e.1, .int .i64 e.2.1, .int .i64 e.2.2.1.1, .int .i64 e.2.2.1.2.1, .int .i64 e.2.2.1.2.2, .string e.2.2.2] : Array Value)[i]? := fun i =>
  (h.bel.cell (p := ⟨w.heap.size, i, none⟩) (Nat.lt_succ_self _)).trans (hl.str.box.2 i)
theorem row5 {w : World} {b : Nat} {e : Ent} (h : Box w b #[.int .i64 e.1, .int .i64 e.2.1, .int .i64 e.2.2.1.1, .int .i64 e.2.2.1.2.1, .int .i64 e.2.2.1.2.2]) : Reads w w.heap.size 1 (some ⟨b, 0, none⟩) 5 (ints (nums e)) :=
  ⟨rfl, fun _ => ⟨_, rfl, h.1, fun j u hj => by
    rw [Addr.add_lit, Nat.zero_add, h.2 j, ← hj, ← Array.getElem?_toList]
    rfl⟩⟩
set_option maxRecDepth 100000 in
set_option maxHeartbeats 4000000 in
theorem line_any (e : Ent) (w : World) (h : fitsE e) (ht : e.2.2.2.size ≤ 100000) (hT : Tab w) :
    Calls Tryz.prog 42 #[eval_ e] w fun r w' => r = .returned (.string ⟨(lineL e).toArray⟩) ∧ Below w.heap.size w w' := by
  have HF := Lib.hid h
  have HT := Lib.hid hT
  have HHL := Lib.hid (headL_len h)
  have HLE : Hid (lineL e = headL e 5 ++ e.2.2.2.data.toList ++ [10]) := Lib.hid (by unfold lineL; rw [headL_five])
  have HS : Hid (∀ k (z : Int), (nums e)[k]? = some z → headL e (k + 1) = headL e k ++ (Lib.itoa z ++ [32])) := Lib.hid fun k z hz => headL_succ hz
  have HNF : Hid (∀ k (z : Int), (nums e)[k]? = some z → fits z) := Lib.hid fun k z hz => nums_fits h hz
  have HTS := Lib.hid (tab_size hT)
  clear h hT
  go_enter Tryz.func42, Tryz.ntmps42
  dsimp only [eval_]
  have Y0 := fun w' => ix35 w.heap.size 2 0 (by omega) w'
  have Y1 := fun w' => ix35 w.heap.size 2 1 (by omega) w'
  have Y2 := fun w' => ix35 w.heap.size 2 2 (by omega) w'
  have cB := ((Box.new w #[.int .i64 e.1, .int .i64 e.2.1, .int .i64 e.2.2.1.1, .int .i64 e.2.2.1.2.1, .int .i64 e.2.2.1.2.2, .string e.2.2.2] 48).alloc (.cells #[.pointer none, .slice none 0 0] 99)).at
  go_wp2_with fail
  have HL0 := Lib.hid (Ln.new e w)
  generalize ((w.alloc (.cells #[.int .i64 e.1, .int .i64 e.2.1, .int .i64 e.2.2.1.1, .int .i64 e.2.2.1.2.1, .int .i64 e.2.2.1.2.2, .string e.2.2.2] 48)).alloc (.cells #[.pointer none, .slice none 0 0] 99)).alloc (.cells #[.int .i64 e.1, .int .i64 e.2.1, .int .i64 e.2.2.1.1, .int .i64 e.2.2.1.2.1, .int .i64 e.2.2.1.2.2] 3) = w3 at HL0 ⊢
  clear cB Y0 Y1 Y2
  go_loopw [5, 21] (fun _ i wr => ∃ k : Nat, k ≤ 5 ∧ i = .int .i64 k ∧ Ln e w k wr) (fun _ i _ => 5 - (intOf i).toNat)
  case atStart => exact ⟨0, by omega, rfl, HL0.out⟩
  case round =>
    clear HL0
    obtain ⟨k, hk, rfl, hln⟩ := hrel
    have HL := Lib.hid hln
    clear hln
    by_cases hlt : k < 5
    · obtain ⟨ad, z, ez, _, hz, dz⟩ := dsat (row5 (HL.out.row.box)) (k := k) (by show k < 5; exact hlt)
      have hil := itoa_len (HNF.out k z hz)
      have X := fun w' => ix46 (n := 5) (c := 5) ez hlt w'
      have hf := Lib.hid (HNF.out k z hz)
      have hs := Lib.hid (HS.out k z hz)
      have hT := Lib.hid (tab_below HT.out HL.out.bel)
      clear ez hz
      go_wp2_with fail
      with_reducible refine (itoa_any z _ hf.out hT.out).mono ?_
      rintro _ w4 ⟨rfl, hb4⟩
      have HL4 := Lib.hid (HL.out.on hb4)
      have hlen : (headL e k).length + (Lib.itoa z ++ [32]).length ≤ 1000000 := by
        have h1 := HHL.out k
        have h2 := itoa_len hf.out
        simp
        omega
      have HLEN := Lib.hid hlen
      clear hb4 hlen dz HL
      go_wp2_with fail
      rw [appB]
      with_reducible refine (ws_any (w.heap.size + 1) (w.heap.size + 1) (headL e k) (Lib.itoa z ++ [32]) w4 HL4.out.bld HLEN.out (by have := (Array.getElem?_eq_some_iff.1 HL4.out.str).1; omega)).mono ?_
      rintro _ w5 ⟨⟨n5, rfl⟩, h5, hb5, hk5⟩
      have HL5 : Hid (Ln e w (k + 1) w5) := Lib.hid (HL4.out.put (by rw [hs.out]; exact h5) hb5 hk5)
      clear h5 hb5 hk5 HL4
      go_wp2_with fail
      go_roundw
      case rel => exact ⟨k + 1, by omega, by go_num, HL5.out⟩
      case measure => simp [intOf]; omega
    · obtain rfl : k = 5 := by omega
      have HLB : Hid ((lineL e).length ≤ 100200) := Lib.hid (by
        have h1 := HHL.out 5
        rw [HLE.out, List.length_append, List.length_append, ← ByteArray.toList_eq]
        have : e.2.2.2.toList.length = e.2.2.2.size := by rw [ByteArray.toList_eq]; simp
        simp
        omega)
      go_wp2_with fail
      have hlt2 : w.heap.size < wr.heap.size := (Array.getElem?_eq_some_iff.1 HL.out.str).1
      have HS0 : Hid (Sg w (headL e 5) wr wr) := Lib.hid ⟨Below.refl _ _, Lib.IsBuilderF.of HL.out.bld⟩
      refine wp_region_hw [0, 1, 2, 3, 4] [5] (Sg w (headL e 5) wr) mixed (by kernel_rfl) (Rl := Rg w (headL e 5)) (fun w => Rg.refl w) (fun _ _ _ h1 h2 => h1.trans h2) (fun W W' h hg => h.on hg) (HS0.out.on Rg.drew) ?_
      refine canonR_call (v := .string ⟨(headL e 5).toArray⟩) (f := 53) (args := #[.pointer (some ⟨w.heap.size + 1, 0, none⟩)]) rfl (by rfl) ?_ ?_ ?_
      · intro w hSw
        go_simp
      · intro w1 hSw
        exact (Tryz.Builder_String_any_f (w.heap.size + 1) (w.heap.size + 1) (headL e 5) w1 hSw.bld (by have := hSw.bel.size; omega)).mono fun r w' ⟨h1, h2, h3⟩ => ⟨h1, h3, fun _ => h2⟩
      simp only [List.getElem_toArray, List.getElem_cons_zero, Act.put, List.setIfInBounds_toArray, List.set_cons_succ, List.set_cons_zero]
      have hb1 : (headL e 5).length ≤ 110 := HHL.out 5
      have hbl : (bodyL e).length ≤ 100110 := by
        rw [← headL_five, List.length_append, ← ByteArray.toList_eq]
        have : e.2.2.2.toList.length = e.2.2.2.size := by rw [ByteArray.toList_eq]; simp
        omega
      have X1 : (⟨(headL e 5).toArray⟩ : ByteArray) ++ e.2.2.2 = ⟨(bodyL e).toArray⟩ := (appB (headL e 5) e.2.2.2.data.toList).trans (by rw [headL_five])
      have X2 : (⟨(bodyL e).toArray⟩ : ByteArray) ++ (⟨#[10]⟩ : ByteArray) = ⟨(lineL e).toArray⟩ := appB (bodyL e) [10]
      have HX1 := Lib.hid X1
      have HX2 := Lib.hid X2
      clear X1 X2
      iterate 2
        refine canonR_read (v := ?_) rfl (by rfl) ?_ ?_
        rotate_left
        · intro w2 hSw
          have cS := hSw.box HL.out
          go_simp <;> with_reducible rfl
        simp only [List.getElem_toArray, List.getElem_cons_zero, List.getElem_cons_succ, Act.put, List.setIfInBounds_toArray, List.set_cons_succ, List.set_cons_zero]
      refine canonR_read (v := .string ⟨(bodyL e).toArray⟩) rfl (by rfl) ?_ ?_
      · intro w2 _
        go_simp
        rw [if_neg (by omega), HX1.out]
      simp only [List.getElem_toArray, List.getElem_cons_zero, List.getElem_cons_succ, Act.put, List.setIfInBounds_toArray, List.set_cons_succ, List.set_cons_zero]
      refine canonR_read (v := .string ⟨(lineL e).toArray⟩) rfl (by rfl) ?_ ?_
      · intro w2 _
        go_simp
        rw [if_neg (by omega), HX2.out]
      simp only [List.getElem_toArray, List.getElem_cons_zero, List.getElem_cons_succ, Act.put, List.setIfInBounds_toArray, List.set_cons_succ, List.set_cons_zero]
      refine canonR_nil ?_
      refine tailR_last (t := 5) (by kernel_rfl) rfl ?_
      intro w9 hb9
      have HB9 := Lib.hid (HL.out.bel.trans (((Rg.drew (w0 := w) (l := headL e 5) (w := wr)).trans hb9).1.mono (Nat.le_succ _)))
      clear hb9
      go_wp2_with fail
      refine NoPanic.normal ?_
      go_wp2_with fail
      go_ret
      exact ⟨rfl, HB9.out⟩
end Go.Proofs.YtnlhllleipemlaaGreatDoor
