/- A region that draws its order: operations that only read (or call what only makes memory), then one operation that all others hang on (a call, say), then again such ones. -/
import Derived.StillTail
import Derived.Test.YtfaleddacmbidaaDoorQt
import Derived.Test.YtfaleddacmbidaaDoorHu
namespace Go.Proofs.YtfaleddacmbidaaDoor
open Go.RowKit Go.Sort

section
variable {P : Program} {ops : Array Oper} {md : Region.Mode} {C : World → Prop} {Q : Exit → Act → World → Prop}
/-- Each operation behind n hangs on n, or on one between. -/
def rootB (md : Region.Mode) (ops : Array Oper) (n : Nat) : Bool :=
  (List.range ops.size).all fun t => decide (t ≤ n) || (List.range t).any fun u => decide (n ≤ u) && Region.waitsFor md ops t u
theorem tail_waits' {n : Nat} {listed : Array Bool} (hs : Region.sinkB md ops n = true) (hc : rootB md ops n = true) (hn : n < ops.size) (inv : HeadInv md ops n listed) :
    ∀ (d i : Nat), n - i = d → i < n → listed.getD i true = false → ∀ t, n ≤ t → t ∉ Region.ready md ops listed := by
  intro d
  induction d using Nat.strongRecOn with
  | _ d ih =>
    intro i hd hi hun t ht hr
    obtain ⟨_, ot, hot, hall⟩ := mem_ready.1 hr
    have htlt : t < ops.size := (Array.getElem?_eq_some_iff.1 hot).1
    by_cases htn : t = n
    · subst htn
      have h1 := List.all_eq_true.1 hs i (List.mem_range.2 hi)
      obtain ⟨j, hj, hj2⟩ := List.any_eq_true.1 h1
      simp only [Bool.and_eq_true, decide_eq_true_eq] at hj2
      obtain ⟨oj, hoj, e, he, hb, hon⟩ := Region.waitsFor_spec hj2.2
      have hjle : j ≤ t := by have := List.mem_range.1 hj; omega
      by_cases hjt : j = t
      · subst hjt
        have : oj = ot := Option.some.inj (hoj.symm.trans hot)
        subst this
        have h2 := hall e he hb
        rw [hon, getD_both hun] at h2
        cases h2
      · cases hl : listed.getD j false with
        | true =>
          have h2 := inv.closed j oj hoj hl e he hb
          rw [hon, getD_both hun] at h2
          cases h2
        | false =>
          have hjs : j < listed.size := by rw [inv.size]; omega
          exact ih (t - j) (by omega) j rfl (by omega) (getD_in hjs hl) t (Nat.le_refl _) hr
    · have h1 := List.all_eq_true.1 hc t (List.mem_range.2 htlt)
      simp only [Bool.or_eq_true, decide_eq_true_eq] at h1
      rcases h1 with h1 | h1
      · omega
      · obtain ⟨u, hu, hu2⟩ := List.any_eq_true.1 h1
        simp only [Bool.and_eq_true, decide_eq_true_eq] at hu2
        have hut := List.mem_range.1 hu
        obtain ⟨o', ho', e, he, hb, hon⟩ := Region.waitsFor_spec hu2.2
        have : o' = ot := Option.some.inj (ho'.symm.trans hot)
        subst this
        have h2 := hall e he hb
        rw [hon, getD_both (inv.tail u hu2.1 (by omega))] at h2
        cases h2
theorem wpAnyM_first {n i : Nat} {oi : Oper} {v : Value} {L : Array Bool → Act → Prop} (hi : ops[i]? = some oi) (hsel : ∀ (j : Nat) (o : Oper) cs b, ops[j]? = some o → o.op ≠ .select cs b)
    (hs : Region.sinkB md ops n = true) (hc : rootB md ops n = true) (hn : n < ops.size) (hin : i < n)
    (hdone : ∀ listed a, L listed a → ∀ j ∈ Region.ready md ops listed, n ≤ j) :
    ∀ (f : Nat) (listed : Array Bool) (a : Act), HeadInv md ops n listed →
      (∀ j oj, ops[j]? = some oj → j ≠ i → listed.getD j true = false → (∀ e ∈ oj.after, Region.binds md e = true → e.on ≠ i) → oi.apart ops oj = true) →
      i ∈ Region.ready md ops listed → YieldsIn P ops C oi v a →
      wpAnyT P md ops C n L f (listed.setIfInBounds i true) (a.put oi.dst v) → wpAnyT P md ops C n L (f + 1) listed a := by
  intro f
  induction f with
  | zero =>
    intro listed a inv _ hr hy H
    have hun := (mem_ready.1 hr).1
    refine ⟨fun h => (by rw [h] at hr; cases hr), fun j hj => ?_⟩
    have hjn : j < n := by
      rcases Nat.lt_or_ge j n with h | h
      · exact h
      · exact absurd hj (tail_waits' hs hc hn inv _ i rfl hin hun j h)
    refine ⟨hjn, ?_⟩
    by_cases hji : j = i
    · subst hji; exact hy.qOp hi H
    · have := hdone _ _ H j (ready_mono hj hji)
      omega
  | succ f ih =>
    intro listed a inv hfree hr hy H
    have hun := (mem_ready.1 hr).1
    refine ⟨fun h => (by rw [h] at hr; cases hr), fun j hj => ?_⟩
    have hjn : j < n := by
      rcases Nat.lt_or_ge j n with h | h
      · exact h
      · exact absurd hj (tail_waits' hs hc hn inv _ i rfl hin hun j h)
    refine ⟨hjn, ?_⟩
    by_cases hji : j = i
    · subst hji; exact hy.qOp hi H
    · have h1 := (H.2 j (ready_mono hj hji)).2
      obtain ⟨hjun, oj, hoj, hall⟩ := mem_ready.1 hj
      have hnot : ∀ e ∈ oj.after, Region.binds md e = true → e.on ≠ i := fun e he hb heq => by
        have h1 := hall e he hb
        rw [heq, getD_both hun] at h1
        cases h1
      have h2 := qOp_put hoj (hfree j oj hoj hji hjun hnot) (fun cs b => hsel i oi cs b hi) (fun cs b => hsel j oj cs b hoj) hy h1
      have hfree' : ∀ k ok, ops[k]? = some ok → k ≠ i → (listed.setIfInBounds j true).getD k true = false →
          (∀ e ∈ ok.after, Region.binds md e = true → e.on ≠ i) → oi.apart ops ok = true := fun k ok hk hki hun hno => by
        refine hfree k ok hk hki ?_ hno
        by_cases hjk : j = k
        · subst hjk; exact hjun
        · rw [getD_set_ne true hjk] at hun; exact hun
      refine qOp_mono (fun a' h3 => ih (listed.setIfInBounds j true) a' (inv.set hj hjn) hfree' (ready_mono hr (Ne.symm hji)) h3.1 ?_) h2
      rw [Array.setIfInBounds_comm _ _ hji]
      exact h3.2
/-- The heads in the text's order, then what is asked of the listing. -/
def midHead (md : Region.Mode) (ops : Array Oper) (E : Array Bool → Bool) : Nat → Nat → Array Bool → Bool
  | 0, _, listed => E listed
  | f + 1, k, listed => (Region.ready md ops listed).contains k && Region.free md ops listed k && midHead md ops E f (k + 1) (listed.setIfInBounds k true)
theorem wpAnyM_lex {n : Nat} {E : Array Bool → Bool} {Lq : Act → Prop} (hE : ∀ listed, E listed = true → Region.ready md ops listed = [n]) (hsel : Region.noSelect ops = true) (hs : Region.sinkB md ops n = true) (hc : rootB md ops n = true) (hn : n < ops.size) :
    ∀ (l : List Oper) (k : Nat) (listed : Array Bool) (a : Act), (∀ j, j < l.length → l[j]? = ops[k + j]?) → k + l.length = n → HeadInv md ops n listed →
    midHead md ops E l.length k listed = true → wpQuiet P ops C Lq l a →
    wpAnyT P md ops C n (fun listed' a' => HeadInv md ops n listed' ∧ E listed' = true ∧ Lq a') l.length listed a
  | [], k, listed, a, _, hk, inv, hB, h => ⟨inv, by simpa [midHead] using hB, h⟩
  | o :: l, k, listed, a, hl, hk, inv, hB, h => by
    have h0 : ops[k]? = some o := by simpa using (hl 0 (by simp)).symm
    simp only [List.length_cons, midHead, Bool.and_eq_true] at hB
    obtain ⟨⟨hr, hf⟩, hB'⟩ := hB
    have hkn : k < n := by simp only [List.length_cons] at hk; omega
    have hr' : k ∈ Region.ready md ops listed := by simpa using hr
    have hst : qOp P ops C k (wpQuiet P ops C Lq l) a := by unfold qOp; simp only [h0]; exact h
    obtain ⟨v, hy, hK⟩ := yieldsIn_of_qOp h0 hst
    exact wpAnyM_first h0 (Region.noSelect_spec hsel) hs hc hn hkn (fun listed' a' hL => by intro j hj; rw [hE _ hL.2.1, List.mem_singleton] at hj; omega) l.length listed a inv (Region.free_spec h0 hf) hr' hy
      (wpAnyM_lex hE hsel hs hc hn l (k + 1) _ _ (fun j hj => by have := hl (j + 1) (by simp; omega); simpa [Nat.add_assoc, Nat.add_comm 1 j] using this) (by simp only [List.length_cons] at hk; omega) (inv.set hr' hkn) hB' hK)
/-- The worlds that have only grown. -/
abbrev GrW (w w' : World) : Prop := ∃ p : Regrown, w' = grow (redrawn w p.d) p.os
theorem GrW.below {w w' : World} (h : GrW w w') : Below w.heap.size w w' := by
  obtain ⟨p, hp⟩ := h
  exact hp ▸ below_regrown w p.d p.os
theorem GrW.refl (w : World) : GrW w w := ⟨⟨w.drawn, #[]⟩, by rw [grow_empty]; rfl⟩
theorem GrW.drew (w : World) : GrW w { w with drawn := w.drawn + 1 } := ⟨⟨w.drawn + 1, #[]⟩, by rw [grow_empty]; rfl⟩
/-- What the kernel looks at: the forced operations ns, one after another. -/
def phB (md : Region.Mode) (ops : Array Oper) : List Nat → Nat → Array Bool → Bool
  | [], k, listed => Region.lexFrom md ops (ops.size - k) k listed
  | n :: ns, k, listed => decide (k ≤ n) && decide (n < ops.size) && Region.sinkB md ops n && rootB md ops n &&
    midHead md ops (fun listed' => decide (Region.ready md ops listed' = [n]) && phB md ops ns (n + 1) (listed'.setIfInBounds n true)) (n - k) k listed
def wpPh (P : Program) (ops : Array Oper) (Q : Exit → Act → World → Prop) : List Nat → Nat → List Oper → Act → World → Prop
  | [], _, l, a, w => wpQuiet P ops (GrW w) (fun a' => ∀ w', Below w.heap.size w w' → Q .normal a' w') l a
  | n :: ns, k, l, a, w => wpQuiet P ops (GrW w) (fun a' => ∀ w', Below w.heap.size w w' → wpOp P ops Q n (fun a2 w2 => wpPh P ops Q ns (n + 1) (l.drop (n + 1 - k)) a2 w2) a' w') (l.take (n - k)) a
theorem inv_more {n m : Nat} {listed : Array Bool} (inv : HeadInv md ops n listed) (h : n ≤ m) : HeadInv md ops m listed :=
  ⟨inv.size, inv.closed, fun t ht => inv.tail t (Nat.le_trans h ht)⟩
theorem inv_next {n : Nat} {listed : Array Bool} (inv : HeadInv md ops n listed) (h : n ∈ Region.ready md ops listed) : HeadInv md ops (n + 1) (listed.setIfInBounds n true) :=
  (inv_more inv (Nat.le_succ n)).set h (Nat.lt_succ_self n)
theorem wpAny_ph (hsel : Region.noSelect ops = true) : ∀ (ns : List Nat) (k : Nat) (listed : Array Bool) (a : Act) (w w1 : World), HeadInv md ops k listed → phB md ops ns k listed = true → k ≤ ops.size → GrW w w1 →
    wpPh P ops Q ns k (ops.toList.drop k) a w → wpAny P md ops Q (ops.size - k) listed a w1
  | [], k, listed, a, w, w1, inv, hB, hk, hg, h => by
    have hl : (ops.toList.drop k).length = ops.size - k := by simp
    have H := wpAnyQ_lex (md := md) hsel (ops.toList.drop k) k listed a (fun j => by simp [List.getElem?_drop]) (by rw [hl]; exact hB) h
    rw [hl] at H
    exact wpAny_of_quiet (Q := fun a' => ∀ w', Below w.heap.size w w' → Q .normal a' w') (fun a' w' hw' h' => h' w' (GrW.below hw')) _ _ _ _ hg H
  | n :: ns, k, listed, a, w, w1, inv, hB, hk, hg, h => by
    simp only [phB, Bool.and_eq_true, decide_eq_true_eq] at hB
    obtain ⟨⟨⟨⟨hkn, hn⟩, hs⟩, hc⟩, hmid⟩ := hB
    have hl : ((ops.toList.drop k).take (n - k)).length = n - k := by simp; omega
    have H := wpAnyM_lex (C := GrW w) (E := fun listed' => decide (Region.ready md ops listed' = [n]) && phB md ops ns (n + 1) (listed'.setIfInBounds n true)) (fun listed' h' => by simp only [Bool.and_eq_true, decide_eq_true_eq] at h'; exact h'.1) hsel hs hc hn ((ops.toList.drop k).take (n - k)) k listed a
      (fun j hj => by rw [hl] at hj; simp [hj, List.getElem?_drop]) (by rw [hl]; omega) (inv_more inv hkn) (by rw [hl]; exact hmid) h
    have K := wpAny_of_headT (Q' := Q) (g := ops.size - n) (fun listed' a' w' hw' hL => by
      obtain ⟨inv', hE, hq⟩ := hL
      simp only [Bool.and_eq_true, decide_eq_true_eq] at hE
      obtain ⟨hr, hp⟩ := hE
      rw [show ops.size - n = (ops.size - (n + 1)) + 1 by omega]
      refine ⟨fun h0 => (by rw [h0] at hr; cases hr), fun i hi => ?_⟩
      rw [hr, List.mem_singleton] at hi
      subst hi
      refine wpOp_mono (fun a2 w2 h2 => ?_) (hq w' (GrW.below hw'))
      refine wpAny_ph hsel ns (i + 1) _ a2 w2 w2 (inv_next inv' (by rw [hr]; exact List.mem_singleton.2 rfl)) hp (by omega) (GrW.refl _) ?_
      have e : (ops.toList.drop k).drop (i + 1 - k) = ops.toList.drop (i + 1) := by rw [List.drop_drop]; congr 1; omega
      rwa [e] at h2) _ _ _ _ hg H
    rwa [hl, show n - k + (ops.size - n) = ops.size - k by omega] at K
/-- The law. -/
theorem wp_region_ph {id : Nat} {a : Act} {w : World} {l : List Oper} (ns : List Nat) (hm : P.follows .mixedOrders = true) (hB : (Region.noSelect l.toArray && phB .any l.toArray ns 0 (Array.replicate l.toArray.size false)) = true)
    (h : wpPh P l.toArray Q ns 0 l a w) : (Code.region id l.toArray true).wp P Q a w := by
  simp only [Bool.and_eq_true] at hB
  have inv0 : HeadInv .any l.toArray 0 (Array.replicate l.toArray.size false) :=
    ⟨by simp, fun j oj _ hl => (by rw [getD_replicate_false] at hl; cases hl), fun t _ ht => getD_in (by simpa using ht) (getD_replicate_false _ _)⟩
  refine wp_region_any hm ?_
  have := wpAny_ph (P := P) (Q := Q) hB.1 ns 0 _ a w _ inv0 hB.2 (Nat.zero_le _) (GrW.drew w) (by simpa using h)
  simpa using this
/-- One forced operation. -/
theorem wp_region_mid {id : Nat} {a : Act} {w : World} {l : List Oper} (n : Nat) {o : Oper} (hm : P.follows .mixedOrders = true) (hB : (Region.noSelect l.toArray && phB .any l.toArray [n] 0 (Array.replicate l.toArray.size false)) = true) (ho : l.toArray[n]? = some o)
    (h : wpQuiet P l.toArray (GrW w) (fun a' => ∀ w', Below w.heap.size w w' → wpList P l.toArray (Thn Q fun a2 w2 => wpQuiet P l.toArray (GrW w2) (fun a3 => ∀ w3, Below w2.heap.size w2 w3 → Q .normal a3 w3) (l.drop (n + 1)) a2) [o] a' w') (l.take n) a) : (Code.region id l.toArray true).wp P Q a w := by
  refine wp_region_ph [n] hm hB ?_
  show wpQuiet P l.toArray (GrW w) (fun a' => ∀ w', Below w.heap.size w w' → wpOp P l.toArray Q n _ a' w') (l.take n) a
  exact wpQuiet_mono (fun a' h w' hb => wpOp_of_list ho (h w' hb)) _ _ h
end
end Go.Proofs.YtfaleddacmbidaaDoor
