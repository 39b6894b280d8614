/- The order of a card's entries: there is just one list of all of them of which none comes behind a later one. -/
import Derived.Test.YtpoodhhajghaoaaGreatDoorO3
import Derived.Test.YtpoodhhajghaoaaGreatDoorCx
namespace Go.Proofs.YtpoodhhajghaoaaGreatDoor
open Go.RowKit Go.Sort

def hasO (es : List Ent) (n p i : Nat) : Bool := match es[i]? with
  | some e => decide (age e = n ∧ e.1 = p)
  | none => false
def rowO (es : List Ent) (n p k : Nat) : List Nat := (List.range k).filter (hasO es n p)
def plO (es : List Ent) (n : Nat) : Nat → List Nat
  | 0 => []
  | p + 1 => plO es n p ++ rowO es n p es.length
def agO (es : List Ent) : Nat → List Nat
  | 0 => []
  | n + 1 => agO es n ++ plO es n 3
/-- The order, as the document says it. -/
def ordL (es : List Ent) : List Nat := agO es 181
section
variable {es : List Ent}
theorem hasO_some {n p i : Nat} : hasO es n p i = true ↔ ∃ e, es[i]? = some e ∧ age e = n ∧ e.1 = p := by
  unfold hasO
  cases es[i]? with
  | none => simp
  | some e => simp
theorem mem_rowO {n p k i : Nat} : i ∈ rowO es n p k ↔ i < k ∧ ∃ e, es[i]? = some e ∧ age e = n ∧ e.1 = p := by
  unfold rowO; rw [List.mem_filter, List.mem_range, hasO_some]
theorem mem_plO {n q i : Nat} : i ∈ plO es n q ↔ ∃ p : Nat, p < q ∧ ∃ e, es[i]? = some e ∧ age e = n ∧ e.1 = p := by
  induction q with
  | zero => simp [plO]
  | succ q ih =>
    show i ∈ plO es n q ++ rowO es n q es.length ↔ _
    rw [List.mem_append, ih, mem_rowO]
    constructor
    · rintro (⟨p, hp, h⟩ | ⟨_, h⟩)
      · exact ⟨p, by omega, h⟩
      · exact ⟨q, by omega, h⟩
    · rintro ⟨p, hp, e, he, h⟩
      rcases Nat.lt_or_ge p q with h1 | h1
      · exact .inl ⟨p, h1, e, he, h⟩
      · obtain rfl : p = q := by omega
        exact .inr ⟨(List.getElem?_eq_some_iff.1 he).1, e, he, h⟩
theorem mem_agO {N i : Nat} : i ∈ agO es N ↔ ∃ n : Nat, n < N ∧ ∃ p : Nat, p < 3 ∧ ∃ e, es[i]? = some e ∧ age e = n ∧ e.1 = p := by
  induction N with
  | zero => simp [agO]
  | succ N ih =>
    show i ∈ agO es N ++ plO es N 3 ↔ _
    rw [List.mem_append, ih, mem_plO]
    constructor
    · rintro (⟨n, hn, h⟩ | h)
      · exact ⟨n, by omega, h⟩
      · exact ⟨N, by omega, h⟩
    · rintro ⟨n, hn, h⟩
      rcases Nat.lt_or_ge n N with h1 | h1
      · exact .inl ⟨n, h1, h⟩
      · obtain rfl : n = N := by omega
        exact .inr h
/-- What the document's list keeps: less seen first, then a lesser place, then a lesser number. -/
def befO (es : List Ent) (i j : Nat) : Prop := ∀ x y, es[i]? = some x → es[j]? = some y → aheadE x y ∨ (age x = age y ∧ x.1 = y.1 ∧ i < j)
theorem rowO_pw (n p k : Nat) : (rowO es n p k).Pairwise (befO es) := by
  have h1 : (rowO es n p k).Pairwise (· < ·) := List.pairwise_lt_range.filter _
  refine (List.pairwise_iff_forall_sublist).2 fun {a b} hs x y hx hy => ?_
  have ha : a ∈ rowO es n p k := hs.subset (by simp)
  have hb : b ∈ rowO es n p k := hs.subset (by simp)
  obtain ⟨_, e, he, a1, a2⟩ := mem_rowO.1 ha
  obtain ⟨_, f, hf, b1, b2⟩ := mem_rowO.1 hb
  obtain rfl := Option.some.inj (hx.symm.trans he)
  obtain rfl := Option.some.inj (hy.symm.trans hf)
  exact .inr ⟨by omega, by omega, (List.pairwise_iff_forall_sublist).1 h1 hs⟩
theorem plO_pw (n q : Nat) : (plO es n q).Pairwise (befO es) := by
  induction q with
  | zero => exact List.Pairwise.nil
  | succ q ih =>
    refine List.pairwise_append.2 ⟨ih, rowO_pw _ _ _, fun a ha b hb x y hx hy => ?_⟩
    obtain ⟨p, hp, e, he, a1, a2⟩ := mem_plO.1 ha
    obtain ⟨_, f, hf, b1, b2⟩ := mem_rowO.1 hb
    obtain rfl := Option.some.inj (hx.symm.trans he)
    obtain rfl := Option.some.inj (hy.symm.trans hf)
    exact .inl (.inr ⟨by omega, by omega⟩)
theorem agO_pw (N : Nat) : (agO es N).Pairwise (befO es) := by
  induction N with
  | zero => exact List.Pairwise.nil
  | succ N ih =>
    refine List.pairwise_append.2 ⟨ih, plO_pw _ _, fun a ha b hb x y hx hy => ?_⟩
    obtain ⟨n, hn, p, hp, e, he, a1, a2⟩ := mem_agO.1 ha
    obtain ⟨p', _, f, hf, b1, b2⟩ := mem_plO.1 hb
    obtain rfl := Option.some.inj (hx.symm.trans he)
    obtain rfl := Option.some.inj (hy.symm.trans hf)
    exact .inl (.inl (by omega))
theorem card_tame (h : Card es) : ∀ e ∈ es, tame e := by
  intro e he
  have b := fun p : Int => clk_le es p
  have c0 := h.sn he (p := 0) (by omega)
  have c1 := h.sn he (p := 1) (by omega)
  have c2 := h.sn he (p := 2) (by omega)
  have b0 := b 0
  have b1 := b 1
  have b2 := b 2
  have := h.len
  exact ⟨⟨c0.1, by have := c0.2; show e.sn 0 ≤ _; simp at this; omega⟩, ⟨c1.1, by have := c1.2; show e.sn 1 ≤ _; simp at this; omega⟩, ⟨c2.1, by have := c2.2; show e.sn 2 ≤ _; simp at this; omega⟩⟩
theorem age_sn (e : Ent) : age e = e.sn 0 + e.sn 1 + e.sn 2 := rfl
/-- Who has seen an entry has seen more than it. -/
theorem age_saw (h : Card es) {e f : Ent} (he : e ∈ es) (hf : f ∈ es) (hs : sawE e f = true) : age f < age e := by
  have u0 := h.up he hf hs (p := 0) (by omega)
  have u1 := h.up he hf hs (p := 1) (by omega)
  have u2 := h.up he hf hs (p := 2) (by omega)
  have h1 := sawE_iff.1 hs
  have h2 := h.own hf
  rw [age_sn, age_sn]
  rcases card_pl h hf with hp | hp | hp <;> rw [hp] at h1 h2 <;> simp at u0 u1 u2 <;> omega
theorem age_place (h : Card es) {e f : Ent} (he : e ∈ es) (hf : f ∈ es) (hp : e.1 = f.1) (hs : e.2.1 < f.2.1) : age e < age f :=
  age_saw h hf he (sawE_iff.2 (by have := h.own hf; rw [hp]; omega))
theorem ahead_total (h : Card es) {e f : Ent} (he : e ∈ es) (hf : f ∈ es) (hne : e ≠ f) : aheadE e f ∨ aheadE f e := by
  by_cases h1 : age e = age f ∧ e.1 = f.1
  · exfalso
    rcases keyLt_total e f with hk | hk | hk
    · have : e.2.1 < f.2.1 := by unfold keyLt at hk; omega
      have := age_place h he hf h1.2 this
      omega
    · exact hne (sorted_inj h.sorted he hf hk.1 hk.2)
    · have : f.2.1 < e.2.1 := by unfold keyLt at hk; omega
      have := age_place h hf he h1.2.symm this
      omega
  · unfold aheadE; omega
theorem ordL_nodup : (ordL es).Nodup := by
  refine (agO_pw (es := es) 181).imp_of_mem fun {a b} ha hb hr hab => ?_
  subst hab
  obtain ⟨_, _, _, _, e, he, _⟩ := mem_agO.1 ha
  rcases hr e e he he with h1 | ⟨_, _, h1⟩
  · unfold aheadE at h1; omega
  · omega
theorem mem_ordL (h : Card es) {i : Nat} : i ∈ ordL es ↔ i < es.length := by
  unfold ordL
  rw [mem_agO]
  constructor
  · rintro ⟨_, _, _, _, e, he, _⟩
    exact (List.getElem?_eq_some_iff.1 he).1
  · intro hi
    have he : es[i]? = some es[i] := List.getElem?_eq_getElem hi
    obtain ⟨⟨a0, a1⟩, ⟨b0, b1⟩, ⟨c0, c1⟩⟩ := card_tame h _ (List.mem_of_getElem? he)
    obtain ⟨p, hp, hp'⟩ := h.place (List.mem_of_getElem? he)
    refine ⟨(age es[i]).toNat, by unfold age; omega, p, hp, _, he, by unfold age; omega, hp'⟩
theorem ordL_perm (h : Card es) : (ordL es).Perm (List.range es.length) :=
  (List.perm_ext_iff_of_nodup ordL_nodup List.nodup_range).2 fun i => by rw [mem_ordL h, List.mem_range]
theorem ordL_strict (h : Card es) : (ordL es).Pairwise fun i j => ∀ x y, es[i]? = some x → es[j]? = some y → aheadE x y := by
  refine (agO_pw (es := es) 181).imp fun {a b} hr x y hx hy => ?_
  rcases hr x y hx hy with h1 | ⟨h1, h2, h3⟩
  · exact h1
  · exfalso
    have hne : x ≠ y := fun e => by
      subst e
      have := card_idx h hx hy
      omega
    rcases ahead_total h (List.mem_of_getElem? hx) (List.mem_of_getElem? hy) hne with h4 | h4 <;> unfold aheadE at h4 <;> omega
theorem ordd_unique (h : Card es) {js : List Nat} (hj : Ordd es js) : js = ordL es := by
  obtain ⟨hp, hw⟩ := hj
  have hnd : js.Nodup := hp.nodup_iff.2 List.nodup_range
  have hs : js.Pairwise fun i j => ∀ x y, es[i]? = some x → es[j]? = some y → aheadE x y := by
    refine (hw.and hnd).imp fun {a b} ⟨h1, h2⟩ x y hx hy => ?_
    have hne : x ≠ y := fun e => by
      subst e
      exact h2 (card_idx h hx hy)
    rcases ahead_total h (List.mem_of_getElem? hx) (List.mem_of_getElem? hy) hne with h4 | h4
    · exact h4
    · exact absurd h4 (h1 x y hx hy)
  refine List.Perm.eq_of_pairwise (fun a b ha hb h1 h2 => ?_) hs (ordL_strict h) (hp.trans (ordL_perm h).symm)
  have hx : es[a]? = some (es[a]'(List.mem_range.1 (hp.mem_iff.1 ha))) := List.getElem?_eq_getElem _
  have hy : es[b]? = some (es[b]'((mem_ordL h).1 hb)) := List.getElem?_eq_getElem _
  have q1 := h1 _ _ hx hy
  have q2 := h2 _ _ hy hx
  unfold aheadE at q1 q2
  omega
end
end Go.Proofs.YtpoodhhajghaoaaGreatDoor
