/- Plain: cards with one more entry, cards brought together, parts of cards. -/
import Derived.Test.YtpoodhhajghaoaaGreatDoorCm
namespace Go.Proofs.YtpoodhhajghaoaaGreatDoor
open Go.RowKit Go.Sort

instance : DecidableEq ByteArray := fun a b => decidable_of_iff (a.data = b.data) ⟨fun h => by cases a; cases b; simp at h; subst h; rfl, fun h => h ▸ rfl⟩
instance : DecidableEq Ent := by unfold Ent; infer_instance
instance (e : Ent) (l : List Ent) : Decidable (e ∈ l) := decidable_of_iff (∃ x ∈ l, x = e) ⟨fun ⟨_, h, h2⟩ => h2 ▸ h, fun h => ⟨e, h, rfl⟩⟩
theorem wrong_not {es : List Ent} {e : Ent} (h : ¬ wrong es e) :
    (∀ p : Nat, p < 3 → ((p : Int) = e.1 → e.sn p = e.2.1 - 1) ∧ 0 ≤ e.sn p ∧ e.sn p ≤ clk es p) ∧ ∀ f ∈ es, sawE e f = true → ∀ p : Nat, p < 3 → f.sn p ≤ e.sn p := by
  unfold wrong at h
  constructor
  · intro p hp
    have : ¬ badP es e p := fun hb => h (.inl ⟨p, hp, hb⟩)
    unfold badP at this
    omega
  · intro f hf hs p hp
    have : ¬ e.sn p < f.sn p := fun hlt => h (.inr ⟨f, hf, hs, p, hp, hlt⟩)
    omega
theorem wrong_intro {es : List Ent} {e : Ent} (h1 : ∀ p : Nat, p < 3 → ((p : Int) = e.1 → e.sn p = e.2.1 - 1) ∧ 0 ≤ e.sn p ∧ e.sn p ≤ clk es p) (h2 : ∀ f ∈ es, sawE e f = true → ∀ p : Nat, p < 3 → f.sn p ≤ e.sn p) : ¬ wrong es e := by
  rintro (⟨p, hp, hb⟩ | ⟨f, hf, hs, p, hp, hlt⟩)
  · have := h1 p hp
    unfold badP at hb
    omega
  · have := h2 f hf hs p hp
    omega
theorem sawE_iff {e f : Ent} : sawE e f = true ↔ f.2.1 ≤ e.sn f.1 := by unfold sawE; rw [decide_eq_true_eq]
section
variable {a b c x : List Ent}
theorem Card.place (h : Card c) {e : Ent} (he : e ∈ c) : ∃ p : Nat, p < 3 ∧ e.1 = p := by
  obtain ⟨h1, h2, _⟩ := h.txt e he
  exact ⟨e.1.toNat, by omega, by omega⟩
theorem Card.own (h : Card c) {e : Ent} (he : e ∈ c) : e.sn e.1 = e.2.1 - 1 := by
  obtain ⟨p, hp, hq⟩ := h.place he
  have := ((wrong_not (h.saw e he)).1 p hp).1 hq.symm
  rw [hq]; exact this
theorem Card.sn (h : Card c) {e : Ent} (he : e ∈ c) {p : Nat} (hp : p < 3) : 0 ≤ e.sn p ∧ e.sn p ≤ clk c p := ((wrong_not (h.saw e he)).1 p hp).2
theorem Card.up (h : Card c) {e f : Ent} (he : e ∈ c) (hf : f ∈ c) (hs : sawE e f = true) {p : Nat} (hp : p < 3) : f.sn p ≤ e.sn p := (wrong_not (h.saw e he)).2 f hf hs p hp
theorem Card.sorted (h : Card c) : c.Pairwise keyLt := Ord_sorted h.ord
/-- What was seen is on the card. -/
theorem Card.seen (h : Card c) {e : Ent} (he : e ∈ c) {p : Nat} (hp : p < 3) {s : Int} (h1 : 1 ≤ s) (h2 : s ≤ e.sn p) : ∃ f ∈ c, f.1 = p ∧ f.2.1 = s := Ord_all h.ord h1 (Int.le_trans h2 (h.sn he hp).2)
theorem card_intro (hl : x.length ≤ 60) (hs : x.Pairwise keyLt) (h : ∀ e ∈ x, ∃ a, Card a ∧ e ∈ a ∧ (∀ f ∈ a, sawE e f = true → f ∈ x) ∧ (∀ f ∈ x, sawE e f = true → f ∈ a)) : Card x := by
  have ho : Ord x := by
    refine Ord_of hs (fun e he => ?_) (fun e he h2 => ?_)
    · obtain ⟨a, ha, hea, _⟩ := h e he
      exact (Ord_num ha.ord e hea).1
    · obtain ⟨a, ha, hea, h3, _⟩ := h e he
      obtain ⟨f, hf, f1, f2⟩ := Ord_all ha.ord (s := e.2.1 - 1) (p := e.1) (by omega) (by have := (Ord_num ha.ord e hea).2; omega)
      refine ⟨f, h3 f hf ?_, f1, f2⟩
      rw [sawE_iff, f1, ha.own hea]; omega
  refine ⟨hl, fun e he => ?_, ho, fun e he => ?_⟩
  · obtain ⟨a, ha, hea, _⟩ := h e he
    exact ha.txt e hea
  · obtain ⟨a, ha, hea, h3, h4⟩ := h e he
    refine wrong_intro (fun p hp => ⟨fun hq => ((wrong_not (ha.saw e hea)).1 p hp).1 hq, (ha.sn hea hp).1, ?_⟩) (fun f hf hsaw p hp => ha.up hea (h4 f hf hsaw) hsaw hp)
    rcases (show e.sn p ≤ 0 ∨ 1 ≤ e.sn p by omega) with h0 | h0
    · omega
    · obtain ⟨f, hf, f1, f2⟩ := ha.seen hea hp h0 (Int.le_refl _)
      have hx := h3 f hf (by rw [sawE_iff, f1, f2]; exact Int.le_refl _)
      have := (Ord_num ho f hx).2
      rw [f1] at this
      omega
/-- No entry of the one list contradicts one of the other. -/
def noPart (a b : List Ent) : Prop := ∀ e ∈ a, ∀ f ∈ b, e.1 = f.1 → e.2.1 = f.2.1 → e = f
instance (a b : List Ent) : Decidable (noPart a b) := by unfold noPart; infer_instance
theorem noPart_symm (h : noPart a b) : noPart b a := fun e he f hf h1 h2 => (h f hf e he h1.symm h2.symm).symm
/-- The error of two cards. -/
def val2 (a b : List Ent) : Int := if val a ≠ 0 then val a else if val b ≠ 0 then val b else if noPart a b then 0 else 12
theorem val2_zero : val2 a b = 0 ↔ Card a ∧ Card b ∧ noPart a b := by
  unfold val2
  constructor
  · intro h
    split at h
    · rename_i h1; exact absurd h h1
    rename_i h1
    split at h
    · rename_i h2; exact absurd h h2
    rename_i h2
    split at h
    · rename_i h3
      exact ⟨val_zero.1 (Classical.not_not.1 h1), val_zero.1 (Classical.not_not.1 h2), h3⟩
    · exact absurd h (by decide)
  · rintro ⟨h1, h2, h3⟩
    rw [if_neg (fun h => h (val_zero.2 h1)), if_neg (fun h => h (val_zero.2 h2)), if_pos h3]
/-- The entries of a place. -/
def ofP (c : List Ent) (p : Int) : List Ent := c.filter fun e => decide (e.1 = p)
/-- The entries of a list that another one has, or has not. -/
def wo (a b : List Ent) (common : Bool) : List Ent := a.filter fun e => decide (e ∈ b) == common
def mergeR (a b : List Ent) : List Ent := (ofP a 0 ++ ofP (wo b a false) 0) ++ (ofP a 1 ++ ofP (wo b a false) 1) ++ (ofP a 2 ++ ofP (wo b a false) 2)
theorem mem_ofP {c : List Ent} {p : Int} {e : Ent} : e ∈ ofP c p ↔ e ∈ c ∧ e.1 = p := by unfold ofP; rw [List.mem_filter, decide_eq_true_eq]
theorem mem_wo {e : Ent} : e ∈ wo a b false ↔ e ∈ a ∧ e ∉ b := by
  unfold wo; rw [List.mem_filter]
  by_cases h : e ∈ b <;> simp [h]
theorem mem_wot {e : Ent} : e ∈ wo a b true ↔ e ∈ a ∧ e ∈ b := by
  unfold wo; rw [List.mem_filter]
  by_cases h : e ∈ b <;> simp [h]
theorem card_pl (h : Card c) {e : Ent} (he : e ∈ c) : e.1 = 0 ∨ e.1 = 1 ∨ e.1 = 2 := by have := h.txt e he; unfold okT at this; omega
theorem mem_mergeR (ha : Card a) (hb : Card b) {e : Ent} : e ∈ mergeR a b ↔ e ∈ a ∨ e ∈ b := by
  unfold mergeR
  simp only [List.mem_append, mem_ofP, mem_wo]
  by_cases h1 : e ∈ a
  · have := card_pl ha h1
    simp [h1]; omega
  · by_cases h2 : e ∈ b
    · have := card_pl hb h2
      simp [h1, h2]; omega
    · simp [h1, h2]
theorem three_sorted {l0 l1 l2 : List Ent} (h0 : l0.Pairwise keyLt) (h1 : l1.Pairwise keyLt) (h2 : l2.Pairwise keyLt) (p0 : ∀ e ∈ l0, e.1 = 0) (p1 : ∀ e ∈ l1, e.1 = 1) (p2 : ∀ e ∈ l2, e.1 = 2) : (l0 ++ l1 ++ l2).Pairwise keyLt := by
  rw [List.pairwise_append, List.pairwise_append]
  refine ⟨⟨h0, h1, fun x hx y hy => ?_⟩, h2, fun x hx y hy => ?_⟩
  · have := p0 x hx; have := p1 y hy; unfold keyLt; omega
  · have := p2 y hy
    rcases List.mem_append.1 hx with hx | hx
    · have := p0 x hx; unfold keyLt; omega
    · have := p1 x hx; unfold keyLt; omega
theorem mergeR_sorted (ha : Card a) (hb : Card b) (hn : noPart a b) : (mergeR a b).Pairwise keyLt := by
  have one : ∀ p : Int, (ofP a p ++ ofP (wo b a false) p).Pairwise keyLt := fun p => by
    rw [List.pairwise_append]
    refine ⟨ha.sorted.filter _, (hb.sorted.filter _).filter _, fun x hx y hy => ?_⟩
    rw [mem_ofP] at hx hy
    rw [mem_wo] at hy
    obtain ⟨⟨y1, y2⟩, y3⟩ := hy
    refine .inr ⟨hx.2.trans y3.symm, Classical.byContradiction fun hlt => ?_⟩
    have h1 := (Ord_num ha.ord x hx.1).2
    have h2 := (Ord_num hb.ord y y1).1
    rw [hx.2] at h1
    obtain ⟨g, hg, g1, g2⟩ := Ord_all ha.ord (s := y.2.1) (p := p) h2 (by omega)
    exact y2 ((hn g hg y y1 (g1.trans y3.symm) g2) ▸ hg)
  have pl : ∀ p : Int, ∀ e ∈ ofP a p ++ ofP (wo b a false) p, e.1 = p := fun p e he => by
    rcases List.mem_append.1 he with he | he
    · exact (mem_ofP.1 he).2
    · exact (mem_ofP.1 he).2
  exact three_sorted (one 0) (one 1) (one 2) (pl 0) (pl 1) (pl 2)
theorem merge_cross (ha : Card a) (hb : Card b) (hn : noPart a b) {e f : Ent} (he : e ∈ a) (hf : f ∈ b) (hs : sawE e f = true) : f ∈ a := by
  obtain ⟨p, hp, hq⟩ := hb.place hf
  have h1 := (Ord_num hb.ord f hf).1
  rw [sawE_iff, hq] at hs
  obtain ⟨g, hg, g1, g2⟩ := ha.seen he hp h1 hs
  exact (hn g hg f hf (g1.trans hq.symm) g2) ▸ hg
theorem card_merge (ha : Card a) (hb : Card b) (hn : noPart a b) (hl : (mergeR a b).length ≤ 60) : Card (mergeR a b) := by
  refine card_intro hl (mergeR_sorted ha hb hn) (fun e he => ?_)
  rcases (mem_mergeR ha hb).1 he with he | he
  · refine ⟨a, ha, he, fun f hf _ => (mem_mergeR ha hb).2 (.inl hf), fun f hf hs => ?_⟩
    rcases (mem_mergeR ha hb).1 hf with hf | hf
    · exact hf
    · exact merge_cross ha hb hn he hf hs
  · refine ⟨b, hb, he, fun f hf _ => (mem_mergeR ha hb).2 (.inr hf), fun f hf hs => ?_⟩
    rcases (mem_mergeR ha hb).1 hf with hf | hf
    · exact merge_cross hb ha (noPart_symm hn) he hf hs
    · exact hf
/-- A sort of the one card with what the other has besides gives the same. -/
theorem merge_sort (ha : Card a) (hb : Card b) (hn : noPart a b) {l : List Ent} (hp : l.Perm (a ++ wo b a false)) (hs : l.Pairwise fun x y => ¬ keyLt y x) : l = mergeR a b := by
  have nd : (a ++ wo b a false).Nodup := by
    rw [List.nodup_append]
    refine ⟨sorted_nodup ha.sorted, (sorted_nodup hb.sorted).filter _, fun x hx y hy e => ?_⟩
    subst e
    exact (mem_wo.1 hy).2 hx
  have inj : ∀ e ∈ a ++ wo b a false, ∀ f ∈ a ++ wo b a false, e.1 = f.1 → e.2.1 = f.2.1 → e = f := fun e he f hf h1 h2 => by
    rcases List.mem_append.1 he with he | he <;> rcases List.mem_append.1 hf with hf | hf
    · exact sorted_inj ha.sorted he hf h1 h2
    · exact hn e he f (mem_wo.1 hf).1 h1 h2
    · exact (hn f hf e (mem_wo.1 he).1 h1.symm h2.symm).symm
    · exact sorted_inj hb.sorted (mem_wo.1 he).1 (mem_wo.1 hf).1 h1 h2
  refine sorted_ext (sorted_of_sort hp hs nd inj) (mergeR_sorted ha hb hn) (fun e => ?_)
  rw [hp.mem_iff, mem_mergeR ha hb, List.mem_append, mem_wo]
  by_cases h : e ∈ a <;> simp [h]
end
end Go.Proofs.YtpoodhhajghaoaaGreatDoor
