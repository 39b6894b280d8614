/- Plain: three cards brought together in any order; what a copy lacks; a card and its part at a clock. -/
import Derived.Test.YtpoodhhajghaoaaGreatDoorCo
namespace Go.Proofs.YtpoodhhajghaoaaGreatDoor
open Go.RowKit Go.Sort

section
variable {a b c x : List Ent}
theorem mergeR_comm (h : val2 a b = 0) : val2 b a = 0 ∧ mergeR b a = mergeR a b := by
  obtain ⟨ha, hb, hn⟩ := val2_zero.1 h
  refine ⟨val2_zero.2 ⟨hb, ha, noPart_symm hn⟩, sorted_ext (mergeR_sorted hb ha (noPart_symm hn)) (mergeR_sorted ha hb hn) fun e => ?_⟩
  rw [mem_mergeR hb ha, mem_mergeR ha hb]
  exact Or.comm
theorem noPart_self (ha : Card a) : noPart a a := fun _ he _ hf h1 h2 => sorted_inj ha.sorted he hf h1 h2
theorem mergeR_self (ha : Card a) : val2 a a = 0 ∧ mergeR a a = a := by
  refine ⟨val2_zero.2 ⟨ha, ha, noPart_self ha⟩, sorted_ext (mergeR_sorted ha ha (noPart_self ha)) ha.sorted fun e => ?_⟩
  rw [mem_mergeR ha ha]
  simp
/-- If a and b, and then c, go together, so do b and c, and a with these, and it is the same. -/
theorem mergeR_assoc (h1 : val2 a b = 0) (h3 : val2 (mergeR a b) c = 0) (h4 : (mergeR (mergeR a b) c).length ≤ 60) :
    val2 b c = 0 ∧ (mergeR b c).length ≤ 60 ∧ val2 a (mergeR b c) = 0 ∧ mergeR a (mergeR b c) = mergeR (mergeR a b) c ∧ val (mergeR (mergeR a b) c) = 0 := by
  obtain ⟨ha, hb, hab⟩ := val2_zero.1 h1
  obtain ⟨hx, hc, hxc⟩ := val2_zero.1 h3
  have hM : ∀ e, e ∈ mergeR a b ↔ e ∈ a ∨ e ∈ b := fun e => mem_mergeR ha hb
  have hU : ∀ e, e ∈ mergeR (mergeR a b) c ↔ (e ∈ a ∨ e ∈ b) ∨ e ∈ c := fun e => by rw [mem_mergeR hx hc, hM]
  have hbc : noPart b c := fun e he f hf k1 k2 => hxc e ((hM e).2 (.inr he)) f hf k1 k2
  have hac : noPart a c := fun e he f hf k1 k2 => hxc e ((hM e).2 (.inl he)) f hf k1 k2
  have hus := mergeR_sorted hx hc hxc
  have hvs := mergeR_sorted hb hc hbc
  have hV : ∀ e, e ∈ mergeR b c ↔ e ∈ b ∨ e ∈ c := fun e => mem_mergeR hb hc
  have e1 : mergeR b c = (mergeR (mergeR a b) c).filter (fun e => decide (e ∈ mergeR b c)) := by
    refine sorted_ext hvs (hus.filter _) fun e => ?_
    rw [List.mem_filter, decide_eq_true_eq, hU, hV]
    constructor
    · intro h
      exact ⟨h.elim (fun h => .inl (.inr h)) .inr, h⟩
    · exact fun h => h.2
  have l1 : (mergeR b c).length ≤ 60 := by
    rw [e1]
    exact Nat.le_trans (List.length_filter_le _ _) h4
  have hv := card_merge hb hc hbc l1
  have hav : noPart a (mergeR b c) := fun e he f hf k1 k2 => by
    rcases (hV f).1 hf with hf | hf
    · exact hab e he f hf k1 k2
    · exact hac e he f hf k1 k2
  refine ⟨val2_zero.2 ⟨hb, hc, hbc⟩, l1, val2_zero.2 ⟨ha, hv, hav⟩, sorted_ext (mergeR_sorted ha hv hav) hus fun e => ?_, val_zero.2 (card_merge hx hc hxc h4)⟩
  rw [mem_mergeR ha hv, hV, hU]
  constructor
  · rintro (h | h | h)
    · exact .inl (.inl h)
    · exact .inl (.inr h)
    · exact .inr h
  · rintro ((h | h) | h)
    · exact .inl h
    · exact .inr (.inl h)
    · exact .inr (.inr h)
/-- What a copy with a clock lacks. -/
def misC (c : List Ent) (t : Nat → Int) : List Ent := c.filter fun e => decide (t e.1.toNat < e.2.1)
theorem mis_at (c : List Ent) (t : Nat → Int) : (misC c t).length + (atC c t).length = c.length := by
  unfold misC atC
  induction c with
  | nil => rfl
  | cons e c ih =>
    by_cases h : e.2.1 ≤ t e.1.toNat
    · have h2 : ¬ t e.1.toNat < e.2.1 := by omega
      simp only [List.filter_cons, h, h2, decide_true, decide_false, if_true, if_false, List.length_cons, Bool.false_eq_true]
      omega
    · have h2 : t e.1.toNat < e.2.1 := by omega
      simp only [List.filter_cons, h, h2, decide_true, decide_false, if_true, if_false, List.length_cons, Bool.false_eq_true]
      omega
theorem at_part (hc : Card c) {t : Nat → Int} (hx : Card (atC c t)) : val2 c (atC c t) = 0 ∧ wo (atC c t) c false = [] := by
  refine ⟨val2_zero.2 ⟨hc, hx, fun e he f hf h1 h2 => sorted_inj hc.sorted he (mem_atC.1 hf).1 h1 h2⟩, ?_⟩
  unfold wo
  rw [List.filter_eq_nil_iff]
  intro e he
  have := (mem_atC.1 he).1
  simp [this]
def tri (t0 t1 t2 : Int) (p : Nat) : Int := if p = 0 then t0 else if p = 1 then t1 else t2
/-- The error of the card at a clock. -/
def okC (c : List Ent) (t : Nat → Int) : Prop := ∀ p : Nat, p < 3 → 0 ≤ t p ∧ t p ≤ clk c p
instance (c : List Ent) (t : Nat → Int) : Decidable (okC c t) := by unfold okC; infer_instance
def atE (c : List Ent) (t : Nat → Int) : Int := if val c ≠ 0 then val c else if ¬ okC c t then 1 else if val (atC c t) ≠ 0 then 11 else 0
def atL (c : List Ent) (t : Nat → Int) : List Ent := if atE c t = 0 then atC c t else []
theorem at_bad {t : Nat → Int} (h : val c ≠ 0) : atE c t = val c ∧ atL c t = [] := by
  have h1 : atE c t = val c := if_pos h
  exact ⟨h1, by unfold atL; rw [h1, if_neg h]⟩
theorem at_out {t : Nat → Int} (h : val c = 0) (h2 : ¬ okC c t) : atE c t = 1 ∧ atL c t = [] := by
  have h1 : atE c t = 1 := by unfold atE; rw [if_neg (fun h' => h' h), if_pos h2]
  exact ⟨h1, by unfold atL; rw [h1]; rfl⟩
theorem at_no {t : Nat → Int} (h : val c = 0) (h2 : okC c t) (h3 : val (atC c t) ≠ 0) : atE c t = 11 ∧ atL c t = [] := by
  have h1 : atE c t = 11 := by unfold atE; rw [if_neg (fun h' => h' h), if_neg (fun h' => h' h2), if_pos h3]
  exact ⟨h1, by unfold atL; rw [h1]; rfl⟩
theorem at_ok {t : Nat → Int} (h : val c = 0) (h2 : okC c t) (h3 : val (atC c t) = 0) : atE c t = 0 ∧ atL c t = atC c t := by
  have h1 : atE c t = 0 := by unfold atE; rw [if_neg (fun h' => h' h), if_neg (fun h' => h' h2), if_neg (fun h' => h' h3)]
  exact ⟨h1, by unfold atL; rw [if_pos h1]⟩
theorem at_zero {t : Nat → Int} (h : atE c t = 0) : Card c ∧ okC c t ∧ Card (atC c t) := by
  by_cases h1 : val c = 0
  · by_cases h2 : okC c t
    · by_cases h3 : val (atC c t) = 0
      · exact ⟨val_zero.1 h1, h2, val_zero.1 h3⟩
      · have := (at_no h1 h2 h3).1; omega
    · have := (at_out h1 h2).1; omega
  · have := (at_bad (t := t) h1).1; omega
/-- Where no entry of the part has seen more than the clock tells, the part is a card; else it is none. -/
theorem at_seen {t : Nat → Int} (h : val c = 0) (h2 : okC c t) : val (atC c t) = 0 ↔ ∀ e ∈ atC c t, ∀ p : Nat, p < 3 → e.sn p ≤ t p := by
  rw [val_zero]
  exact card_at_iff (val_zero.1 h) h2
def misE (c : List Ent) (t : Nat → Int) : List Ent := if val c = 0 then misC c t else []
/-- An entry's error and what it knew. -/
def knE (c : List Ent) (i : Int) : Int := if val c ≠ 0 then val c else if 0 ≤ i ∧ i < c.length then 0 else 5
def knL (c : List Ent) (i : Int) : List Ent := if knE c i = 0 then knC c (c.getD i.toNat default) else []
theorem kn_bad {i : Int} (h : val c ≠ 0) : knE c i = val c ∧ knL c i = [] := by
  have h1 : knE c i = val c := if_pos h
  exact ⟨h1, by unfold knL; rw [h1, if_neg h]⟩
theorem kn_none {i : Int} (h : val c = 0) (h2 : ¬ (0 ≤ i ∧ i < c.length)) : knE c i = 5 ∧ knL c i = [] := by
  have h1 : knE c i = 5 := by unfold knE; rw [if_neg (fun h' => h' h), if_neg h2]
  exact ⟨h1, by unfold knL; rw [h1]; rfl⟩
theorem kn_ok {i : Int} (h : val c = 0) (h2 : 0 ≤ i) (h3 : i < c.length) {e : Ent} (he : c[i.toNat]? = some e) : knE c i = 0 ∧ knL c i = knC c e := by
  have h1 : knE c i = 0 := by unfold knE; rw [if_neg (fun h' => h' h), if_pos ⟨h2, h3⟩]
  refine ⟨h1, ?_⟩
  unfold knL
  rw [if_pos h1, List.getD_eq_getElem?_getD, he]
  rfl
theorem kn_card {i : Int} (h : knE c i = 0) : val (knL c i) = 0 := by
  by_cases h1 : val c = 0
  · by_cases h2 : 0 ≤ i ∧ i < c.length
    · have hlt : i.toNat < c.length := by omega
      have he := List.getElem?_eq_getElem hlt
      rw [(kn_ok h1 h2.1 h2.2 he).2]
      exact val_zero.2 (card_kn (val_zero.1 h1) (List.getElem_mem hlt))
    · have := (kn_none h1 h2).1; omega
  · have := (kn_bad (i := i) h1).1; omega
/-- On a card the same entry stands at one place only. -/
theorem card_idx (hc : Card c) {i j : Nat} {e : Ent} (h1 : c[i]? = some e) (h2 : c[j]? = some e) : i = j := by
  have hi : i < c.length := by
    rcases Nat.lt_or_ge i c.length with h | h
    · exact h
    · rw [List.getElem?_eq_none h] at h1; cases h1
  exact (List.getElem?_inj hi (sorted_nodup hc.sorted)).1 (h1.trans h2.symm)
end
end Go.Proofs.YtpoodhhajghaoaaGreatDoor
