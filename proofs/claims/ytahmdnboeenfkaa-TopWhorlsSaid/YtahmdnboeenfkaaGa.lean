/- Fields turned, mirrored, with another direction; regions with a chain; fields that are being made. -/
import Derived.StillTail
import Derived.Test.YtahmdnboeenfkaaFv
import Derived.Test.YtahmdnboeenfkaaW25
import Derived.Laws.BitsLemmas
import Derived.OrdersHeld
import Derived.Deep.RegionHeld3
namespace Go.Proofs.Ytahmdnboeenfkaa
open Go.RowKit Go.Sort

section
variable {P : Program} {ops : Array Oper} {md : Region.Mode} {C : World → Prop}
def wpAnyT (P : Program) (md : Region.Mode) (ops : Array Oper) (C : World → Prop) (n : Nat) (L : Array Bool → Act → Prop) : Nat → Array Bool → Act → Prop
  | 0, listed, a => L listed a
  | f + 1, listed, a =>
    Region.ready md ops listed ≠ [] ∧ ∀ i ∈ Region.ready md ops listed, i < n ∧ qOp P ops C i (wpAnyT P md ops C n L f (listed.setIfInBounds i true)) a
theorem wpAny_of_headT {n g : Nat} {L : Array Bool → Act → Prop} {Q' : Exit → Act → World → Prop} (hL : ∀ listed a w, C w → L listed a → wpAny P md ops Q' g listed a w) :
    ∀ (f : Nat) (listed : Array Bool) (a : Act) (w : World), C w → wpAnyT P md ops C n L f listed a → wpAny P md ops Q' (f + g) listed a w
  | 0, listed, a, w, hw, h => by rw [Nat.zero_add]; exact hL _ _ _ hw h
  | f + 1, listed, a, w, hw, h => by
    rw [show f + 1 + g = (f + g) + 1 by omega]
    exact ⟨fun h0 => absurd h0 h.1, fun i hi => wpOp_of_qOp hw (fun a' w' hw' h' => wpAny_of_headT hL f _ a' w' hw' h') (h.2 i hi).2⟩
theorem wpAnyT_first {n i : Nat} {oi : Oper} {v : Value} {L : Array Bool → Act → Prop} (hi : ops[i]? = some oi) (hsel : ∀ (j : Nat) (o : Oper) cs b, ops[j]? = some o → o.op ≠ .select cs b)
    (hs : Region.sinkB md ops n = true) (hc : Region.chainB md ops n = true) (hn : n < ops.size) (hin : i < n)
    (hdone : ∀ listed a, L listed a → ∀ j ∈ Region.ready md ops listed, n ≤ j) :
    ∀ (f : Nat) (listed : Array Bool) (a : Act), HeadInv md ops n listed →
      (∀ j oj, ops[j]? = some oj → j ≠ i → listed.getD j true = false → (∀ e ∈ oj.after, Region.binds md e = true → e.on ≠ i) → oi.apart ops oj = true) →
      i ∈ Region.ready md ops listed → YieldsIn P ops C oi v a →
      wpAnyT P md ops C n L f (listed.setIfInBounds i true) (a.put oi.dst v) → wpAnyT P md ops C n L (f + 1) listed a := by
  intro f
  induction f with
  | zero =>
    intro listed a inv _ hr hy H
    have hun := (mem_ready.1 hr).1
    refine ⟨fun h => (by rw [h] at hr; cases hr), fun j hj => ?_⟩
    have hjn : j < n := by
      rcases Nat.lt_or_ge j n with h | h
      · exact h
      · exact absurd hj (tail_waits hs hc hn inv _ i rfl hin hun j h)
    refine ⟨hjn, ?_⟩
    by_cases hji : j = i
    · subst hji; exact hy.qOp hi H
    · have := hdone _ _ H j (ready_mono hj hji)
      omega
  | succ f ih =>
    intro listed a inv hfree hr hy H
    have hun := (mem_ready.1 hr).1
    refine ⟨fun h => (by rw [h] at hr; cases hr), fun j hj => ?_⟩
    have hjn : j < n := by
      rcases Nat.lt_or_ge j n with h | h
      · exact h
      · exact absurd hj (tail_waits hs hc hn inv _ i rfl hin hun j h)
    refine ⟨hjn, ?_⟩
    by_cases hji : j = i
    · subst hji; exact hy.qOp hi H
    · have h1 := (H.2 j (ready_mono hj hji)).2
      obtain ⟨hjun, oj, hoj, hall⟩ := mem_ready.1 hj
      have hnot : ∀ e ∈ oj.after, Region.binds md e = true → e.on ≠ i := fun e he hb heq => by
        have h1 := hall e he hb
        rw [heq, getD_both hun] at h1
        cases h1
      have h2 := qOp_put hoj (hfree j oj hoj hji hjun hnot) (fun cs b => hsel i oi cs b hi) (fun cs b => hsel j oj cs b hoj) hy h1
      have hfree' : ∀ k ok, ops[k]? = some ok → k ≠ i → (listed.setIfInBounds j true).getD k true = false →
          (∀ e ∈ ok.after, Region.binds md e = true → e.on ≠ i) → oi.apart ops ok = true := fun k ok hk hki hun hno => by
        refine hfree k ok hk hki ?_ hno
        by_cases hjk : j = k
        · subst hjk; exact hjun
        · rw [getD_set_ne true hjk] at hun; exact hun
      refine qOp_mono (fun a' h3 => ih (listed.setIfInBounds j true) a' (inv.set hj hjn) hfree' (ready_mono hr (Ne.symm hji)) h3.1 ?_) h2
      rw [Array.setIfInBounds_comm _ _ hji]
      exact h3.2
theorem wpAnyT_lex {n g : Nat} {Lq : Act → Prop} (hsel : Region.noSelect ops = true) (hs : Region.sinkB md ops n = true) (hc : Region.chainB md ops n = true) (hn : n < ops.size) :
    ∀ (l : List Oper) (k : Nat) (listed : Array Bool) (a : Act), (∀ j, j < l.length → l[j]? = ops[k + j]?) → k + l.length = n → HeadInv md ops n listed →
    Region.lexHead md ops g l.length k listed = true → wpQuiet P ops C Lq l a →
    wpAnyT P md ops C n (fun listed' a' => Region.seqB md ops g n listed' = true ∧ Lq a') l.length listed a
  | [], k, listed, a, _, hk, _, hB, h => by
    have : k = n := by simpa using hk
    subst this
    exact ⟨by simpa [Region.lexHead] using hB, h⟩
  | o :: l, k, listed, a, hl, hk, inv, hB, h => by
    have h0 : ops[k]? = some o := by simpa using (hl 0 (by simp)).symm
    simp only [List.length_cons, Region.lexHead, Bool.and_eq_true] at hB
    obtain ⟨⟨hr, hf⟩, hB'⟩ := hB
    have hkn : k < n := by simp only [List.length_cons] at hk; omega
    have hr' : k ∈ Region.ready md ops listed := by simpa using hr
    have hst : qOp P ops C k (wpQuiet P ops C Lq l) a := by unfold qOp; simp only [h0]; exact h
    obtain ⟨v, hy, hK⟩ := yieldsIn_of_qOp h0 hst
    exact wpAnyT_first h0 (Region.noSelect_spec hsel) hs hc hn hkn (fun listed' a' hL => seqB_ready hL.1) l.length listed a inv (Region.free_spec h0 hf) hr' hy
      (wpAnyT_lex hsel hs hc hn l (k + 1) _ _ (fun j hj => by have := hl (j + 1) (by simp; omega); simpa [Nat.add_assoc, Nat.add_comm 1 j] using this) (by simp only [List.length_cons] at hk; omega) (inv.set hr' hkn) hB' hK)
theorem wp_region_quiet_tail {id : Nat} {Q : Exit → Act → World → Prop} {a : Act} {w : World} {l : List Oper} (n : Nat) (hm : P.follows .mixedOrders = true) (hB : Region.lexTailB .any l.toArray n = true) (hC : C { w with drawn := w.drawn + 1 })
    (h : wpQuiet P l.toArray C (fun a' => ∀ w', C w' → wpList P l.toArray Q (l.drop n) a' w') (l.take n) a) : (Code.region id l.toArray true).wp P Q a w := by
  simp only [Region.lexTailB, Bool.and_eq_true, decide_eq_true_eq] at hB
  obtain ⟨⟨⟨⟨hsel, hn⟩, hs⟩, hc⟩, hlex⟩ := hB
  have hn' : n < l.length := by simpa using hn
  have htl : (l.take n).length = n := by simp; omega
  have hdl : (l.drop n).length = l.toArray.size - n := by simp
  have inv0 : HeadInv .any l.toArray n (Array.replicate l.toArray.size false) :=
    ⟨by simp, fun j oj _ hl => (by rw [getD_replicate_false] at hl; cases hl), fun t _ ht => getD_in (by simpa using ht) (getD_replicate_false _ _)⟩
  have H := wpAnyT_lex (C := C) (md := .any) (g := l.toArray.size - n) hsel hs hc hn (l.take n) 0 _ a (fun j hj => by
    have hj' : j < n := by rw [htl] at hj; exact hj
    simp [hj']) (by simpa using htl) inv0 (by rw [htl]; exact hlex) h
  refine wp_region_any hm ?_
  have := wpAny_of_headT (Q' := Q) (g := l.toArray.size - n) (fun listed a' w' hw' hL => by
    have := wpAny_of_seq (md := .any) (Q' := Q) (l.drop n) n listed a' w' (fun j => by simp [List.getElem?_drop]) (by rw [hdl]; exact hL.1) (hL.2 w' hw')
    rwa [hdl] at this) _ _ _ _ hC H
  rw [htl, show n + (l.toArray.size - n) = l.toArray.size by omega] at this
  exact this
theorem wpQuiet_mono {Q Q' : Act → Prop} (hq : ∀ a, Q a → Q' a) : ∀ (l : List Oper) (a : Act), wpQuiet P ops C Q l a → wpQuiet P ops C Q' l a := by
  intro l
  induction l with
  | nil => intro a h; exact hq a h
  | cons o l ih =>
    intro a h
    unfold wpQuiet at h ⊢
    split
    · rename_i hw
      rw [if_pos hw] at h
      exact Oper.quiet_mono (fun a hh => ih a hh) h
    · rename_i hw
      rw [if_neg hw] at h
      exact ih _ h
/-- At the class of the worlds that have only grown. -/
theorem wp_region_qt {id : Nat} {Q : Exit → Act → World → Prop} {a : Act} {w : World} {l : List Oper} (n : Nat) (hm : P.follows .mixedOrders = true) (hB : Region.lexTailB .any l.toArray n = true)
    (h : wpQuiet P l.toArray (fun w' => ∃ p : Regrown, w' = grow (redrawn w p.d) p.os) (fun a' => ∀ w', Below w.heap.size w w' → wpList P l.toArray Q (l.drop n) a' w') (l.take n) a) : (Code.region id l.toArray true).wp P Q a w := by
  refine wp_region_quiet_tail (C := fun w' => ∃ p : Regrown, w' = grow (redrawn w p.d) p.os) n hm hB ⟨⟨w.drawn + 1, #[]⟩, by rw [grow_empty]; rfl⟩ ?_
  exact wpQuiet_mono (fun a' h w' ⟨p, hp⟩ => h w' (hp ▸ below_regrown w p.d p.os)) _ _ h
end
end Go.Proofs.Ytahmdnboeenfkaa

namespace Go.Proofs.Ytahmdnboeenfkaa
open Go.RowKit Go.Sort

theorem row_mono {w : World} {base base' : Nat} {e : TypeId} {sz n : Nat} {u : Value} {xs : List Value} (h : w.ownsRow base e sz u n xs) (hb : base' ≤ base) : w.ownsRow base' e sz u n xs := by
  refine ⟨h.1, ?_⟩
  rcases h.2 with h0 | ⟨g, cap, cur, h1, h2, h3⟩
  · exact .inl h0
  · exact .inr ⟨g, cap, cur, h1, Nat.le_trans hb h2, h3⟩
set_option maxHeartbeats 4000000 in
set_option maxRecDepth 4000 in
theorem clone_any (v : FV) (w : World) (hv : v.In w) (hn : v.n ≤ 1000000) (hm : v.m ≤ 1000000) :
    Calls Try.prog 82 #[v.val] w (RetClone v.f w) := by
  have HV := Lib.hid hv
  clear hv
  go_enter Try.func82, Try.ntmps82
  dsimp only [FV.val]
  go_wp2_with fail
  refine wp_gen (fun W => Box W w.heap.size #[.int .i64 v.f.W, .int .i64 v.f.H, .slice v.A v.n v.c, .slice v.B v.m v.d] ∧ (∀ i, W.frozen? ⟨w.heap.size, i, none⟩ = false) ∧ Box W (w.heap.size + 1) #[.int .i64 0, .int .i64 0, .slice none 0 0, .slice none 0 0] ∧ (∀ i, W.frozen? ⟨w.heap.size + 1, i, none⟩ = false) ∧ Below w.heap.size w W) ⟨(Box.new _ _ _).alloc _, ?_, Box.new2 _ _ _ _ _, ?_, belowAA _ _ _⟩ ?_
  · exact fz_below (Box.new w _ 25).1 (fz_new _ _ _) (belowA _ _)
  · have := fz_new (w.alloc (.cells #[.int .i64 v.f.W, .int .i64 v.f.H, .slice v.A v.n v.c, .slice v.B v.m v.d] 25)) #[.int .i64 0, .int .i64 0, .slice none 0 0, .slice none 0 0] 25
    rw [World.size_alloc] at this; exact this
  rintro w1 ⟨b0, f0, br, fr, hb1⟩
  have HV1 := Lib.hid (HV.out.below hb1)
  have hw1 := Lib.hid hb1
  clear hb1
  have c0 := b0.at
  go_region_with (first
    | (go_at_call 95; refine (cloneI_any v.A v.n v.c v.f.ds _ (HV1.out.ds.on (Below.refl _ _).drew) hn).mono ?_; rintro r w2 ⟨A', c', rfl, hrA, hbA⟩; have hbA' : Below w1.heap.size w1 w2 := ⟨hbA.os, hbA.tape, hbA.output, hbA.size, hbA.block⟩; have kA := (b0.below hbA').at; have zA := fz_below b0.1 f0 hbA'; have HRA := Lib.hid hrA; have HBA := Lib.hid hbA'; clear hrA hbA hbA')
    | (go_at_call 85; refine (cloneE_any v.B v.m v.d v.f.ps _ (HV1.out.ps.on HBA.out.drew) hm).mono ?_; rintro r w3 ⟨B', d', rfl, hrB, hbB⟩; have hbB' : Below w2.heap.size w2 w3 := ⟨hbB.os, hbB.tape, hbB.output, hbB.size, hbB.block⟩; have kB := (b0.below (below_trans' HBA.out hbB')).at; have zB := fz_below b0.1 f0 (below_trans' HBA.out hbB'); have HRB := Lib.hid hrB; have HBB := Lib.hid hbB'; clear hrB hbB hbB')
    | (go_at_call 85; refine (cloneE_any v.B v.m v.d v.f.ps _ (HV1.out.ps.on HBA.out) hm).mono ?_; rintro r w3 ⟨B', d', rfl, hrB, hbB⟩; have hbB' : Below w2.heap.size w2 w3 := ⟨hbB.os, hbB.tape, hbB.output, hbB.size, hbB.block⟩; have kB := (b0.below (below_trans' HBA.out hbB')).at; have zB := fz_below b0.1 f0 (below_trans' HBA.out hbB'); have HRB := Lib.hid hrB; have HBB := Lib.hid hbB'; clear hrB hbB hbB'))
  all_goals
    have hbw := Lib.hid (below_trans' HBA.out HBB.out)
    have hb3 := b0.below hbw.out
    have hr3 := br.below hbw.out
    have hlt := Lib.hid br.1
    have zR := fz_below br.1 fr hbw.out
    have hne : ∀ i, w.heap.size + 1 ≠ (⟨w.heap.size, i, none⟩ : Addr).block := fun i => by show w.heap.size + 1 ≠ w.heap.size; omega
    have bf := (hb3.set (i := 2) (by simp) (.slice A' v.n c')).set (i := 3) (by simp) (.slice B' v.m d')
    have bR := (hr3.far (p := ⟨w.heap.size, 2, none⟩) (hne 2) (.slice A' v.n c')).far (p := ⟨w.heap.size, 3, none⟩) (hne 3) (.slice B' v.m d')
    have cf := bf.at
    have cR := bR.at
    clear c0 kA zA kB zB b0 br f0 fr hb3 hr3
    go_wp2_with fail
    have bF := (((bR.set (i := 0) (by simp) (.int .i64 v.f.W)).set (i := 1) (by simp) (.int .i64 v.f.H)).set (i := 2) (by simp) (.slice A' v.n c')).set (i := 3) (by simp) (.slice B' v.m d')
    have cF := bF.at
    refine bodyPost_ret (v := .agg #[.int .i64 v.f.W, .int .i64 v.f.H, .slice A' v.n c', .slice B' v.m d']) (by simp [results, Try.results82, go_sem, cF]) rfl
      ⟨⟨v.f, A', B', v.n, c', v.m, d'⟩, rfl, rfl, ?_, ?_⟩
    · have hA : ∀ k, (Value.slice A' v.n c').ownBlock = some k → w1.heap.size ≤ k ∧ k < w2.heap.size := HRA.out.lt
      have hB : ∀ k, (Value.slice B' v.m d').ownBlock = some k → w2.heap.size ≤ k ∧ k < w3.heap.size := HRB.out.lt
      have hw := HBA.out.size
      have hl := hlt.out
      have o3 : FOwn w.heap.size w3 ⟨v.f, A', B', v.n, c', v.m, d'⟩ := ⟨row_on (row_mono HRA.out hw1.out.size) HBB.out, row_mono HRB.out (Nat.le_trans hw1.out.size hw), fun p q hp hq => by
        have h1 := hA p.block (by rw [show A' = some p from hp]; rfl)
        have h2 := hB q.block (by rw [show B' = some q from hq]; rfl)
        omega⟩
      have fA : ∀ b i p, b ≤ w.heap.size + 1 → A' = some p → p.block ≠ (⟨b, i, none⟩ : Addr).block := fun b i p hb hp => by
        have h1 := hA p.block (by rw [hp]; rfl)
        show p.block ≠ b; omega
      have fB : ∀ b i p, b ≤ w.heap.size + 1 → B' = some p → p.block ≠ (⟨b, i, none⟩ : Addr).block := fun b i p hb hp => by
        have h1 := hB p.block (by rw [hp]; rfl)
        show p.block ≠ b; omega
      exact (((((o3.far (fun p => fA _ 2 p (by omega)) (fun p => fB _ 2 p (by omega)) _).far (fun p => fA _ 3 p (by omega)) (fun p => fB _ 3 p (by omega)) _).far (fun p => fA _ 0 p (by omega)) (fun p => fB _ 0 p (by omega)) _).far (fun p => fA _ 1 p (by omega)) (fun p => fB _ 1 p (by omega)) _).far (fun p => fA _ 2 p (by omega)) (fun p => fB _ 2 p (by omega)) _).far (fun p => fA _ 3 p (by omega)) (fun p => fB _ 3 p (by omega)) _
    · have h0 := below_trans' hw1.out hbw.out
      exact (((((h0.setCell (p := ⟨w.heap.size, 2, none⟩) (Nat.le_refl _) _).setCell (p := ⟨w.heap.size, 3, none⟩) (Nat.le_refl _) _).setCell (p := ⟨w.heap.size + 1, 0, none⟩) (Nat.le_succ _) _).setCell (p := ⟨w.heap.size + 1, 1, none⟩) (Nat.le_succ _) _).setCell (p := ⟨w.heap.size + 1, 2, none⟩) (Nat.le_succ _) _).setCell (p := ⟨w.heap.size + 1, 3, none⟩) (Nat.le_succ _) _
end Go.Proofs.Ytahmdnboeenfkaa

namespace Go.Proofs.Ytahmdnboeenfkaa
open Go.RowKit Go.Sort

theorem copyIntsO_any (A : Option Addr) (n c : Nat) (ds : List Int) (w : World) (hr : Reads w w.heap.size 1 A n (ints ds)) (hn : n ≤ 1000000) :
    Calls Try.prog 56 #[.slice A n c] w (RetRow 3 1 ds.length (ints ds) w) := by
  have hl := hr.len
  rw [ints_length] at hl
  have l1 : n ≤ ds.length := by omega
  have l2 : ds.length ≤ n := by omega
  clear hl
  go_enter Try.func56, Try.ntmps56
  go_wp2_with fail
  go_loopw [3, 4] (fun out i wr => ∃ k : Nat, k ≤ n ∧ i = .int .i64 k ∧ OwnI w wr out (ds.take k)) (fun _ i _ => n - (intOf i).toNat)
  case atStart => exact ⟨0, by omega, rfl, by simpa using OwnI.nil w⟩
  case round =>
    obtain ⟨k, hk, rfl, hown0⟩ := hrel
    have hown := Lib.hid hown0
    by_cases hlt : k < n
    · obtain ⟨ad, z, e1, hbk, hz0, d0⟩ := dsat (hr.on hown0.bel) (k := k) (by omega)
      have hz := Lib.hid hz0
      have X := fun w => ix22 (c := c) e1 hlt w
      have hlen : (ds.take k).length < 1000000000 := by rw [List.length_take]; omega
      clear hz0 hown0 e1
      go_wp2_with (at_builtin; refine wpList_pushI rfl _ _ rfl w _ _ (ds.take k) z _ rfl (hown.out.on (belowA _ _)) rfl (Box.new _ _ _) hlen ?_; intro v' w' hown'; have hown5 := Lib.hid hown'; clear hown')
      go_roundw
      case rel => exact ⟨k + 1, by omega, by go_num, by rw [take_succ_of hz.out]; exact hown5.out⟩
      case measure => simp [intOf]; omega
    · obtain ⟨A', c', hv, _⟩ := hown0.form
      have hT := Lib.hid (show ds.take k = ds from List.take_of_length_le (by omega))
      clear hown0
      rw [hT.out] at hown hv
      subst hv
      go_wp2_with fail
      go_ret
      exact ⟨A', c', rfl, hown.out.row, hown.out.bel⟩

/-- Block B, not frozen, holds cs; its cell 3 is meant for rv, which owns the first edges of ps, in memory from bl on; the slice A, in another block, reads as ds. -/
structure DInv (B0 bl : Nat) (w0 w : World) (B : Nat) (cs : Array Value) (A : Option Addr) (cd : Nat) (ds : List Int) (es : List Edg) (rv : Value) : Prop where
  box : Box w B cs
  fz : ∀ i, w.frozen? ⟨B, i, none⟩ = false
  row : w.ownsRow bl 33 3 rv es.length (edgs es)
  rd : w.ownsRow w0.heap.size 3 1 (.slice A ds.length cd) ds.length (ints ds)
  ap : ∀ p, A = some p → p.block ≠ B
  bel : Below w0.heap.size w0 w
  sz : bl ≤ w.heap.size
  b0 : w0.heap.size ≤ B
  b1 : B < bl
  b2 : ∀ p, A = some p → w0.heap.size ≤ p.block ∧ p.block < bl

section
variable {B0 bl : Nat} {w0 w w' : World} {B : Nat} {cs : Array Value} {A : Option Addr} {cd : Nat} {ds : List Int} {es : List Edg} {rv : Value}
theorem DInv.on (h : DInv B0 bl w0 w B cs A cd ds es rv) (hb : Below w.heap.size w w') : DInv B0 bl w0 w' B cs A cd ds es rv where
  box := h.box.below hb
  fz := fz_below h.box.1 h.fz hb
  row := by
    refine h.row.kept (row := none) ⟨hb.os, hb.tape, hb.output, hb.size, fun k hk _ => hb.block k hk⟩ ?_
    cases hv : rv.ownBlock with
    | none => exact .inl rfl
    | some k => exact .inr (by simp)
  rd := row_on h.rd hb
  ap := h.ap
  bel := below_trans' h.bel hb
  sz := Nat.le_trans h.sz hb.size
  b0 := h.b0
  b1 := h.b1
  b2 := h.b2
theorem DInv.pushed (h : DInv B0 bl w0 w B cs A cd ds es rv) {e : Edg} {v' : Value} (h1 : w'.ownsRow bl 33 3 v' (es.length + 1) (edgs es ++ ecells e)) (h2 : w.grownBy w' rv.ownBlock) : DInv B0 bl w0 w' B cs A cd ds (es ++ [e]) v' := by
  have hrow : ∀ k, rv.ownBlock = some k → bl ≤ k := fun k hk => (h.row.lt k hk).1
  have hblk : ∀ k, k < bl → w'.heap[k]? = w.heap[k]? := fun k hk => h2.block k (Nat.lt_of_lt_of_le hk h.sz) (fun e => by have := hrow k e.symm; omega)
  have hB : Below bl w w' := ⟨h2.os, h2.tape, h2.output, h2.size, hblk⟩
  refine ⟨⟨Nat.lt_of_lt_of_le h.box.1 h2.size, fun i => ?_⟩, fun i => ?_, ?_, ?_, h.ap, ?_, Nat.le_trans h.sz h2.size, h.b0, h.b1, h.b2⟩
  · rw [hB.cell (p := ⟨B, i, none⟩) h.b1]; exact h.box.2 i
  · rw [hB.frozen (p := ⟨B, i, none⟩) h.b1]; exact h.fz i
  · rw [edgs_append, List.length_append]; exact h1
  · refine h.rd.kept h2 ?_
    cases hA : A with
    | none => exact .inl rfl
    | some p =>
      refine .inr fun e => ?_
      have h3 := hrow p.block (by rw [← e]; rfl)
      have h4 := (h.b2 p hA).2
      omega
  · exact h.bel.grown h2 h.bel.size fun k hk => by have := hrow k hk; have := h.b0; have := h.b1; omega
theorem DInv.stored (h : DInv B0 bl w0 w B cs A cd ds es rv) {i : Nat} (hi : i < cs.size) (u : Value) : DInv B0 bl w0 (w.setCell ⟨B, i, none⟩ u) B (cs.setIfInBounds i u) A cd ds es rv := by
  refine ⟨h.box.set hi u, fun j => by rw [World.frozen?_setCell]; exact h.fz j, ?_, ?_, h.ap, h.bel.setCell h.b0 _, by rw [size_set]; exact h.sz, h.b0, h.b1, h.b2⟩
  · exact ownsRow_setCell_below h.row h.b1 _
  · exact row_far h.rd (q := ⟨B, i, none⟩) (fun k hk => by cases hA : A with
      | none => rw [hA] at hk; cases hk
      | some p => rw [hA] at hk; injection hk with hk; subst hk; exact h.ap p hA) _
end

/-- The box is laid behind the copied list. -/
theorem DInv.behind {w1 w' : World} {cs : Array Value} {A : Option Addr} {cd : Nat} {ds : List Int} (hb : Below w1.heap.size w1 w') (hr : w'.ownsRow w1.heap.size 3 1 (.slice A ds.length cd) ds.length (ints ds)) (hf : ∀ p, A = some p → w1.heap.size ≤ p.block ∧ p.block < w'.heap.size) (t : TypeId) :
    DInv 0 (w'.alloc (.cells cs t)).heap.size w1 (w'.alloc (.cells cs t)) w'.heap.size cs A cd ds [] (.slice none 0 0) where
  box := Box.new _ _ _
  fz := fz_new _ _ _
  row := World.ownsRow_nil _ _ _ _
  rd := row_on hr (belowA _ _)
  ap := fun p hp => by have := (hf p hp).2; omega
  bel := below_trans' hb (belowA _ _)
  sz := Nat.le_refl _
  b0 := hb.size
  b1 := by simp
  b2 := fun p hp => ⟨(hf p hp).1, by have := (hf p hp).2; simp; omega⟩
/-- The box was there first, and is written behind the copied list. -/
theorem DInv.ahead {w1 w' : World} {cs : Array Value} {A : Option Addr} {cd : Nat} {ds : List Int} {t : TypeId} (hb : Below (w1.alloc (.cells cs t)).heap.size (w1.alloc (.cells cs t)) w') (hr : w'.ownsRow w1.heap.size 3 1 (.slice A ds.length cd) ds.length (ints ds))
    (hf : ∀ p, A = some p → (w1.alloc (.cells cs t)).heap.size ≤ p.block ∧ p.block < w'.heap.size) : DInv 0 w'.heap.size w1 w' w1.heap.size cs A cd ds [] (.slice none 0 0) where
  box := (Box.new _ _ _).below hb
  fz := fz_below (Box.new w1 cs t).1 (fz_new _ _ _) hb
  row := World.ownsRow_nil _ _ _ _
  rd := hr
  ap := fun p hp => by have := (hf p hp).1; simp at this; omega
  bel := below1 _ hb
  sz := Nat.le_refl _
  b0 := Nat.le_refl _
  b1 := by have := hb.size; simp at this; omega
  b2 := fun p hp => ⟨by have := (hf p hp).1; simp at this; omega, (hf p hp).2⟩
end Go.Proofs.Ytahmdnboeenfkaa

namespace Go.Proofs.Ytahmdnboeenfkaa
open Go.RowKit Go.Sort
set_option maxHeartbeats 400000 in
theorem copyO_any (v : FV) (w : World) (hv : v.In w) (hn : v.f.ds.length ≤ 1000000) (hm : v.f.ps.length ≤ 1000000) :
    Calls Try.prog 19 #[v.val] w (RetClone v.f w) := by
  obtain ⟨l1, l2⟩ := hv.l1
  obtain ⟨l3, l4⟩ := hv.l2
  have HVv := Lib.hid hv
  clear hv
  go_enter Try.func19, Try.ntmps19
  dsimp only [FV.val]
  go_wp2_with fail
  refine wp_gen (fun w1 => Box w1 w.heap.size #[.int .i64 v.f.W, .int .i64 v.f.H, .slice v.A v.n v.c, .slice v.B v.m v.d] ∧ Below w.heap.size w w1 ∧ w1.heap.size = w.heap.size + 2 ∧ Box w1 (w.heap.size + 1) #[.int .i64 0, .int .i64 0, .slice none 0 0, .slice none 0 0] ∧ ∀ i, w1.frozen? ⟨w.heap.size + 1, i, none⟩ = false) ⟨(Box.new _ _ _).alloc _, belowAA _ _ _, by simp, Box.new2 _ _ _ _ _, by have := fz_new (w.alloc (.cells #[.int .i64 v.f.W, .int .i64 v.f.H, .slice v.A v.n v.c, .slice v.B v.m v.d] 25)) #[.int .i64 0, .int .i64 0, .slice none 0 0, .slice none 0 0] 25; rw [World.size_alloc] at this; exact this⟩ ?_
  rintro w1 ⟨b0, hw10, hsz0, br, hfz0⟩
  have HFZ := Lib.hid hfz0
  clear hfz0
  have HV1 := Lib.hid (HVv.out.below hw10)
  have hw1 := Lib.hid hw10
  have hsz := Lib.hid hsz0
  clear hw10
  have c0 := b0.at
  have hne : w.heap.size ≠ w1.heap.size := by omega
  clear hsz0
  go_region_held3 (fun w' => (∀ i, w'.cell? ⟨w.heap.size, i, none⟩ = (#[.int .i64 v.f.W, .int .i64 v.f.H, .slice v.A v.n v.c, .slice v.B v.m v.d] : Array Value)[i]?)) (first | (with_reducible first | exact b0.drew.at | exact (b0.alloc _).drew.at | exact (b0.drew.below hbh.out).at | exact ((b0.alloc _).drew.below hbh.out).at | exact ((b0.drew.below hbh.out).alloc _).at) | exact ((((((b0.alloc _).drew.below hbh.out)).far hne _).far hne _).far hne _).far hne _ |>.at)
    (first | (go_at_call 56; refine (copyIntsO_any _ _ _ v.f.ds _ (HV1.out.ds.on (by with_reducible first | exact (Below.refl _ _).drew | exact (belowA _ _).drew)) (by omega)).mono ?_; rintro e w' ⟨A', c', rfl, hr, hb⟩; have HFR := Lib.hid (fun p (hp : A' = some p) => hr.lt p.block (by rw [hp]; rfl)); have hbh := Lib.hid hb; first | (have k0 := ((Box.new w1 _ 25).drew.below hb).at; have k1 := fz_below (Box.new w1 _ 25).drew.1 (fz_drew (fz_new w1 _ 25)) hb; clear hb) | clear hb))
  all_goals go_wp2_with fail
  · refine wp_gen (fun W => DInv 0 W.heap.size w1 W w'.heap.size #[.int .i64 v.f.W, .int .i64 v.f.H, .slice A' v.f.ds.length c', .slice none 0 0] A' c' v.f.ds [] (.slice none 0 0)) ?_ ?_
    · exact DInv.behind (undrew hbh.out) hr HFR.out 25
    intro wl hinv0
    generalize w'.heap.size = B at hinv0 ⊢
    have hpar : B = B := rfl
    have HI := Lib.hid hinv0
    clear hinv0
    clear hr hbh HFR
    have HP := Lib.hid hpar
    clear hpar
    go_loopw [4] (fun i wr => ∃ k : Nat, k ≤ v.m ∧ i = .int .i64 k ∧ ∃ rv, DInv 0 wl.heap.size w1 wr B #[.int .i64 v.f.W, .int .i64 v.f.H, .slice A' v.f.ds.length c', rv] A' c' v.f.ds (v.f.ps.take k) rv) (fun i _ => v.m - (intOf i).toNat)
    case atStart => exact ⟨0, by omega, rfl, _, by simpa using HI.out⟩
    case round =>
      obtain ⟨k, hk, rfl, rv, hc0⟩ := hrel
      have HC := Lib.hid hc0
      have bf := b0.below hc0.bel
      have bo := hc0.box
      by_cases hlt : k < v.m
      · obtain ⟨ad, x, e1, hbk, hx0, d0, d1, d2⟩ := psat HV1.out.ps (k := k) (by omega)
        have hx := Lib.hid hx0
        have X := fun w => ix23 (c := v.d) e1 hlt w
        have hlen : (v.f.ps.take k).length < 1000000000 := by rw [List.length_take]; omega
        have h1 := hc0.bel.cell (p := ad.add (k * 3)) (by rw [blockAdd]; exact hbk)
        have h2 := hc0.bel.cell (p := ⟨(ad.add (k * 3)).block, (ad.add (k * 3)).off + 1, none⟩) (by show (ad.add (k * 3)).block < _; rw [blockAdd]; exact hbk)
        have h3 := hc0.bel.cell (p := ⟨(ad.add (k * 3)).block, (ad.add (k * 3)).off + 2, none⟩) (by show (ad.add (k * 3)).block < _; rw [blockAdd]; exact hbk)
        rw [← h1] at d0
        rw [← h2] at d1
        rw [← h3] at d2
        have cf := bf.at
        have co := bo.at
        have co2 := fun o => (bo.alloc o).at
        have cfz := hc0.fz
        clear hx0 e1 hc0 h1 h2 h3
        go_wp2_with fail
        go_region_law (first | (refine step_push rfl _ _ rfl wl.heap.size _ rv (v.f.ps.take k) x wr.heap.size rfl (HC.out.on (belowA _ _).drew).row (HC.out.on (belowA _ _).drew).sz rfl (Box.new _ _ _).drew hlen ?_; intro v' w2 hr1 hr2; obtain ⟨A2, c2, hv2⟩ := row_form hr1; subst hv2; have HI2 := Lib.hid ((HC.out.on (belowA _ _).drew).pushed hr1 hr2); have ck := HI2.out.box.at; have fk := HI2.out.fz; clear hr1 hr2))
        all_goals
          go_wp2_with fail
          go_roundw
          case rel => exact ⟨k + 1, by omega, by go_num, _, by rw [take_succ_of hx.out]; simpa using HI2.out.stored (i := 3) (by simp) _⟩
          case measure => simp [intOf]; omega
      · clear HC bo
        rw [show v.f.ps.take k = v.f.ps from List.take_of_length_le (by omega)] at hc0
        obtain ⟨A2, c2, hv2⟩ := row_form hc0.row
        subst hv2
        have HC := Lib.hid hc0
        have bo := hc0.box
        have cf := bf.at
        have co := bo.at
        have bR := br.below hc0.bel
        have cr := bR.at
        have cz := fz_below br.1 HFZ.out hc0.bel
        have hne2 : B ≠ w.heap.size + 1 := by have := hc0.b0; have := hsz.out; omega
        have HNE := Lib.hid hne2
        have hl : v.f.ps.length ≤ 9223372036854775807 := by omega
        clear hc0 hne2
        go_wp2_with fail
        have bF := (((bR.set (i := 0) (by simp) (.int .i64 v.f.W)).set (i := 1) (by simp) (.int .i64 v.f.H)).set (i := 2) (by simp) (.slice A' v.f.ds.length c')).set (i := 3) (by simp) (.slice A2 v.f.ps.length c2)
        have cF := bF.at
        refine bodyPost_ret (v := .agg #[.int .i64 v.f.W, .int .i64 v.f.H, .slice A' v.f.ds.length c', .slice A2 v.f.ps.length c2]) (by simp [results, Try.results19, go_sem, cF]) rfl
          ⟨⟨v.f, A', A2, v.f.ds.length, c', v.f.ps.length, c2⟩, rfl, rfl, ⟨?_, ?_, ?_⟩, ?_⟩
        · have hA : ∀ p, A' = some p → p.block ≠ w.heap.size + 1 := fun p hp => by have := (HC.out.b2 p hp).1; have := hsz.out; omega
          have hk : ∀ i k, (Value.slice A' v.f.ds.length c').ownBlock = some k → k ≠ (⟨w.heap.size + 1, i, none⟩ : Addr).block := fun i k hk => by
            cases A' with
            | none => cases hk
            | some p => injection hk with hk; subst hk; exact hA p rfl
          exact row_mono (row_far (row_far (row_far (row_far HC.out.rd (hk 0) _) (hk 1) _) (hk 2) _) (hk 3) _) hw1.out.size
        · have hA : ∀ p, A2 = some p → p.block ≠ w.heap.size + 1 := fun p hp => by
            have := (HC.out.row.lt p.block (by rw [hp]; rfl)).1
            have := HC.out.b0
            have := HC.out.b1
            have := hsz.out
            omega
          have hk : ∀ i k, (Value.slice A2 v.f.ps.length c2).ownBlock = some k → k ≠ (⟨w.heap.size + 1, i, none⟩ : Addr).block := fun i k hk => by
            cases A2 with
            | none => cases hk
            | some p => injection hk with hk; subst hk; exact hA p rfl
          exact row_mono (row_far (row_far (row_far (row_far HC.out.row (hk 0) _) (hk 1) _) (hk 2) _) (hk 3) _) (by have := HC.out.b0; have := HC.out.b1; have := hw1.out.size; omega)
        · intro p q hp hq
          have h1 := (HC.out.b2 p hp).2
          have h2 := (HC.out.row.lt q.block (by rw [show A2 = some q from hq]; rfl)).1
          omega
        · have h0 := below_trans' hw1.out HC.out.bel
          exact (((h0.setCell (p := ⟨w.heap.size + 1, 0, none⟩) (Nat.le_succ _) _).setCell (p := ⟨w.heap.size + 1, 1, none⟩) (Nat.le_succ _) _).setCell (p := ⟨w.heap.size + 1, 2, none⟩) (Nat.le_succ _) _).setCell (p := ⟨w.heap.size + 1, 3, none⟩) (Nat.le_succ _) _
  · refine wp_gen (fun W => DInv 0 W.heap.size w1 W w1.heap.size #[.int .i64 v.f.W, .int .i64 v.f.H, .slice A' v.f.ds.length c', .slice none 0 0] A' c' v.f.ds [] (.slice none 0 0)) ?_ ?_
    · have h0 := DInv.ahead (w1 := w1) (ds := v.f.ds) (undrew hbh.out) (row_mono hr (by show w1.heap.size ≤ (w1.alloc _).heap.size; simp)) HFR.out
      have h1 := (((h0.stored (i := 0) (by simp) (.int .i64 v.f.W)).stored (i := 1) (by simp) (.int .i64 v.f.H)).stored (i := 2) (by simp) (.slice A' v.f.ds.length c')).stored (i := 3) (by simp) (.slice none 0 0)
      simp only [size_set]
      simpa using h1
    intro wl hinv0
    generalize hB : w1.heap.size = B at hinv0 ⊢
    have hpar := hB
    clear hB
    have HI := Lib.hid hinv0
    clear hinv0
    clear hr hbh HFR
    have HP := Lib.hid hpar
    clear hpar
    go_loopw [4] (fun i wr => ∃ k : Nat, k ≤ v.m ∧ i = .int .i64 k ∧ ∃ rv, DInv 0 wl.heap.size w1 wr B #[.int .i64 v.f.W, .int .i64 v.f.H, .slice A' v.f.ds.length c', rv] A' c' v.f.ds (v.f.ps.take k) rv) (fun i _ => v.m - (intOf i).toNat)
    case atStart => exact ⟨0, by omega, rfl, _, by simpa using HI.out⟩
    case round =>
      obtain ⟨k, hk, rfl, rv, hc0⟩ := hrel
      have HC := Lib.hid hc0
      have bf := b0.below hc0.bel
      have bo := hc0.box
      by_cases hlt : k < v.m
      · obtain ⟨ad, x, e1, hbk, hx0, d0, d1, d2⟩ := psat HV1.out.ps (k := k) (by omega)
        have hx := Lib.hid hx0
        have X := fun w => ix23 (c := v.d) e1 hlt w
        have hlen : (v.f.ps.take k).length < 1000000000 := by rw [List.length_take]; omega
        have h1 := hc0.bel.cell (p := ad.add (k * 3)) (by rw [blockAdd]; exact hbk)
        have h2 := hc0.bel.cell (p := ⟨(ad.add (k * 3)).block, (ad.add (k * 3)).off + 1, none⟩) (by show (ad.add (k * 3)).block < _; rw [blockAdd]; exact hbk)
        have h3 := hc0.bel.cell (p := ⟨(ad.add (k * 3)).block, (ad.add (k * 3)).off + 2, none⟩) (by show (ad.add (k * 3)).block < _; rw [blockAdd]; exact hbk)
        rw [← h1] at d0
        rw [← h2] at d1
        rw [← h3] at d2
        have cf := bf.at
        have co := bo.at
        have co2 := fun o => (bo.alloc o).at
        have cfz := hc0.fz
        clear hx0 e1 hc0 h1 h2 h3
        go_wp2_with fail
        go_region_law (first | (refine step_push rfl _ _ rfl wl.heap.size _ rv (v.f.ps.take k) x wr.heap.size rfl (HC.out.on (belowA _ _).drew).row (HC.out.on (belowA _ _).drew).sz rfl (Box.new _ _ _).drew hlen ?_; intro v' w2 hr1 hr2; obtain ⟨A2, c2, hv2⟩ := row_form hr1; subst hv2; have HI2 := Lib.hid ((HC.out.on (belowA _ _).drew).pushed hr1 hr2); have ck := HI2.out.box.at; have fk := HI2.out.fz; clear hr1 hr2))
        all_goals
          go_wp2_with fail
          go_roundw
          case rel => exact ⟨k + 1, by omega, by go_num, _, by rw [take_succ_of hx.out]; simpa using HI2.out.stored (i := 3) (by simp) _⟩
          case measure => simp [intOf]; omega
      · clear HC bo
        rw [show v.f.ps.take k = v.f.ps from List.take_of_length_le (by omega)] at hc0
        obtain ⟨A2, c2, hv2⟩ := row_form hc0.row
        subst hv2
        have HC := Lib.hid hc0
        have bo := hc0.box
        have cf := bf.at
        have co := bo.at
        have bR := br.below hc0.bel
        have cr := bR.at
        have cz := fz_below br.1 HFZ.out hc0.bel
        have hne2 : B ≠ w.heap.size + 1 := by have := hc0.b0; have := hsz.out; omega
        have HNE := Lib.hid hne2
        have hl : v.f.ps.length ≤ 9223372036854775807 := by omega
        clear hc0 hne2
        go_wp2_with fail
        have bF := (((bR.set (i := 0) (by simp) (.int .i64 v.f.W)).set (i := 1) (by simp) (.int .i64 v.f.H)).set (i := 2) (by simp) (.slice A' v.f.ds.length c')).set (i := 3) (by simp) (.slice A2 v.f.ps.length c2)
        have cF := bF.at
        refine bodyPost_ret (v := .agg #[.int .i64 v.f.W, .int .i64 v.f.H, .slice A' v.f.ds.length c', .slice A2 v.f.ps.length c2]) (by simp [results, Try.results19, go_sem, cF]) rfl
          ⟨⟨v.f, A', A2, v.f.ds.length, c', v.f.ps.length, c2⟩, rfl, rfl, ⟨?_, ?_, ?_⟩, ?_⟩
        · have hA : ∀ p, A' = some p → p.block ≠ w.heap.size + 1 := fun p hp => by have := (HC.out.b2 p hp).1; have := hsz.out; omega
          have hk : ∀ i k, (Value.slice A' v.f.ds.length c').ownBlock = some k → k ≠ (⟨w.heap.size + 1, i, none⟩ : Addr).block := fun i k hk => by
            cases A' with
            | none => cases hk
            | some p => injection hk with hk; subst hk; exact hA p rfl
          exact row_mono (row_far (row_far (row_far (row_far HC.out.rd (hk 0) _) (hk 1) _) (hk 2) _) (hk 3) _) hw1.out.size
        · have hA : ∀ p, A2 = some p → p.block ≠ w.heap.size + 1 := fun p hp => by
            have := (HC.out.row.lt p.block (by rw [hp]; rfl)).1
            have := HC.out.b0
            have := HC.out.b1
            have := hsz.out
            omega
          have hk : ∀ i k, (Value.slice A2 v.f.ps.length c2).ownBlock = some k → k ≠ (⟨w.heap.size + 1, i, none⟩ : Addr).block := fun i k hk => by
            cases A2 with
            | none => cases hk
            | some p => injection hk with hk; subst hk; exact hA p rfl
          exact row_mono (row_far (row_far (row_far (row_far HC.out.row (hk 0) _) (hk 1) _) (hk 2) _) (hk 3) _) (by have := HC.out.b0; have := HC.out.b1; have := hw1.out.size; omega)
        · intro p q hp hq
          have h1 := (HC.out.b2 p hp).2
          have h2 := (HC.out.row.lt q.block (by rw [show A2 = some q from hq]; rfl)).1
          omega
        · have h0 := below_trans' hw1.out HC.out.bel
          exact (((h0.setCell (p := ⟨w.heap.size + 1, 0, none⟩) (Nat.le_succ _) _).setCell (p := ⟨w.heap.size + 1, 1, none⟩) (Nat.le_succ _) _).setCell (p := ⟨w.heap.size + 1, 2, none⟩) (Nat.le_succ _) _).setCell (p := ⟨w.heap.size + 1, 3, none⟩) (Nat.le_succ _) _
end Go.Proofs.Ytahmdnboeenfkaa

namespace Go.Proofs.Ytahmdnboeenfkaa
open Go.RowKit Go.Sort

theorem i64_and7 (n : Int) : bits .and .i64 n 7 = n % 8 := by
  have h7 : (BitVec.ofInt 64 7).toNat = 2 ^ 3 - 1 := by decide
  have key : (BitVec.ofInt 64 n &&& BitVec.ofInt 64 7).toNat = (n % ((2 ^ 64 : Nat) : Int)).toNat % 2 ^ 3 := by
    rw [BitVec.toNat_and, BitVec.toNat_ofInt, h7, Nat.and_two_pow_sub_one_eq_mod]
  show IntKind.i64.wrap ((BitVec.ofInt 64 n &&& BitVec.ofInt 64 7).toNat : Nat) = n % 8
  rw [key, IntKind.wrap_i64]
  omega
theorem eighth_any (n : Int) (w : World) : Calls Try.prog 91 #[.int .i64 n] w fun e w' => e = .returned (.int .i64 (n % 8)) ∧ w = w' := by
  go_enter Try.func91, Try.ntmps91
  go_wp2_with fail
  go_ret
  exact ⟨ret_int (i64_and7 n), rfl⟩

/-- What the result's cell, written at the end, leaves of a field of the call's own. -/
theorem res_own {w w1 W : World} {u : FV} {B : Nat} (ho : FOwn w1.heap.size W u) (hB : B < w1.heap.size) (hb : Below w.heap.size w W) (h0 : w.heap.size ≤ B) (h1 : w.heap.size ≤ w1.heap.size) (a b c d : Value) :
    FOwn w.heap.size ((((W.setCell ⟨B, 0, none⟩ a).setCell ⟨B, 1, none⟩ b).setCell ⟨B, 2, none⟩ c).setCell ⟨B, 3, none⟩ d) u ∧
    Below w.heap.size w ((((W.setCell ⟨B, 0, none⟩ a).setCell ⟨B, 1, none⟩ b).setCell ⟨B, 2, none⟩ c).setCell ⟨B, 3, none⟩ d) := by
  have hA : ∀ i p, u.A = some p → p.block ≠ (⟨B, i, none⟩ : Addr).block := fun i p hp => by have := (ho.blkA hp).1; show p.block ≠ B; omega
  have hB' : ∀ i p, u.B = some p → p.block ≠ (⟨B, i, none⟩ : Addr).block := fun i p hp => by have := (ho.blkB hp).1; show p.block ≠ B; omega
  have o := (((ho.far (hA 0) (hB' 0) a).far (hA 1) (hB' 1) b).far (hA 2) (hB' 2) c).far (hA 3) (hB' 3) d
  exact ⟨⟨row_mono o.ds h1, row_mono o.ps h1, o.ne⟩, (((hb.setCell (p := ⟨B, 0, none⟩) h0 a).setCell (p := ⟨B, 1, none⟩) h0 b).setCell (p := ⟨B, 2, none⟩) h0 c).setCell (p := ⟨B, 3, none⟩) h0 d⟩
theorem res_bel {w W : World} {B : Nat} (hb : Below w.heap.size w W) (h0 : w.heap.size ≤ B) (a b c d : Value) :
    Below w.heap.size w ((((W.setCell ⟨B, 0, none⟩ a).setCell ⟨B, 1, none⟩ b).setCell ⟨B, 2, none⟩ c).setCell ⟨B, 3, none⟩ d) :=
  (((hb.setCell (p := ⟨B, 0, none⟩) h0 a).setCell (p := ⟨B, 1, none⟩) h0 b).setCell (p := ⟨B, 2, none⟩) h0 c).setCell (p := ⟨B, 3, none⟩) h0 d
/-- The cell of the result: it is there, not frozen, and its block is the call's own. -/
structure ResB (w W : World) (B : Nat) : Prop where
  box : Box W B #[.int .i64 0, .int .i64 0, .slice none 0 0, .slice none 0 0]
  fz : ∀ i, W.frozen? ⟨B, i, none⟩ = false
  bel : Below w.heap.size w W
  le : w.heap.size ≤ B
theorem ResB.on {w W W' : World} {B : Nat} (h : ResB w W B) (hb : Below W.heap.size W W') : ResB w W' B := ⟨h.box.below hb, fz_below h.box.1 h.fz hb, below_trans' h.bel hb, h.le⟩
/-- In a world in which only what was made since w1 is other. -/
theorem ResB.past {w W W' : World} {B : Nat} (h : ResB w W B) {w1 : World} (hb : Below W.heap.size W w1) (hb2 : Below w1.heap.size w1 W') : ResB w W' B := (h.on hb).on hb2
theorem ResB.new (w : World) (cs : Array Value) (t : TypeId) : ResB w ((w.alloc (.cells cs t)).alloc (.cells #[.int .i64 0, .int .i64 0, .slice none 0 0, .slice none 0 0] 25)) (w.heap.size + 1) := by
  refine ⟨Box.new2 _ _ _ _ _, ?_, belowAA _ _ _, Nat.le_succ _⟩
  have := fz_new (w.alloc (.cells cs t)) #[.int .i64 0, .int .i64 0, .slice none 0 0, .slice none 0 0] 25
  rw [World.size_alloc] at this; exact this
/-- Box behind four stores. -/
theorem Box.four {W : World} {B : Nat} {x y z u : Value} (h : Box W B #[x, y, z, u]) (a b c d : Value) : Box ((((W.setCell ⟨B, 0, none⟩ a).setCell ⟨B, 1, none⟩ b).setCell ⟨B, 2, none⟩ c).setCell ⟨B, 3, none⟩ d) B #[a, b, c, d] := by
  have := (((h.set (i := 0) (by simp) a).set (i := 1) (by simp) b).set (i := 2) (by simp) c).set (i := 3) (by simp) d
  simpa using this

theorem refResult_any (v : FV) (w0 w : World) (hb : Below w0.heap.size w0 w) (ho : FOwn w0.heap.size w v) :
    Calls Try.prog 86 #[v.val] w (RetOwn (fin v.f) (valid v.f) w0) := by
  have HB := Lib.hid hb
  have HO := Lib.hid ho
  clear hb ho
  go_enter Try.func86, Try.ntmps86
  dsimp only [FV.val]
  go_wp2_with fail
  refine (refValidate_any v _ (HO.out.In.below (belowAA _ _ _))).mono ?_
  rintro r w2 ⟨rfl, hb2⟩
  have hR := (ResB.new w #[.int .i64 v.f.W, .int .i64 v.f.H, .slice v.A v.n v.c, .slice v.B v.m v.d] 25).on hb2
  have b0 := ((Box.new w #[.int .i64 v.f.W, .int .i64 v.f.H, .slice v.A v.n v.c, .slice v.B v.m v.d] 25).alloc (.cells #[.int .i64 0, .int .i64 0, .slice none 0 0, .slice none 0 0] 25)).below hb2
  have HO2 := Lib.hid (HO.out.on (below2 _ _ hb2))
  have HB2 := Lib.hid (below_trans' HB.out (below2 _ _ hb2))
  have hszw := Lib.hid HB.out.size
  have hAb := Lib.hid (fun p (hp : v.A = some p) => (HO.out.blkA hp).2)
  have hBb := Lib.hid (fun p (hp : v.B = some p) => (HO.out.blkB hp).2)
  have cr := hR.box.at
  have fr := hR.fz
  have HR := Lib.hid hR
  clear hb2 hR
  by_cases hz : valid v.f = 0
  · have hz' : (valid v.f != 0) = false := by simpa using hz
    have HF := Lib.hid (show fin v.f = v.f by unfold fin; rw [if_pos hz])
    have HZ := Lib.hid hz
    clear hz
    have c0 := b0.at
    go_wp2_with fail
    have cF := (HR.out.box.four (.int .i64 v.f.W) (.int .i64 v.f.H) (.slice v.A v.n v.c) (.slice v.B v.m v.d)).at
    refine bodyPost_ret (v := .tuple #[.agg #[.int .i64 v.f.W, .int .i64 v.f.H, .slice v.A v.n v.c, .slice v.B v.m v.d], .int .i64 0]) (by simp [results, Try.results86, go_sem, cF]) rfl
      ⟨v, HF.out.symm, by rw [HZ.out], ?_, ?_⟩
    · have h1 : ∀ i p, v.A = some p → p.block ≠ (⟨w.heap.size + 1, i, none⟩ : Addr).block := fun i p hp => by have := hAb.out p hp; show p.block ≠ w.heap.size + 1; omega
      have h2 : ∀ i p, v.B = some p → p.block ≠ (⟨w.heap.size + 1, i, none⟩ : Addr).block := fun i p hp => by have := hBb.out p hp; show p.block ≠ w.heap.size + 1; omega
      exact (((HO2.out.far (h1 0) (h2 0) _).far (h1 1) (h2 1) _).far (h1 2) (h2 2) _).far (h1 3) (h2 3) _
    · exact res_bel HB2.out (by have := hszw.out; omega) _ _ _ _
  · have hz' : (valid v.f != 0) = true := by simpa using hz
    have HF := Lib.hid (show fin v.f = zeroF by unfold fin; rw [if_neg hz])
    clear hz
    go_wp2_with fail
    have cF := (HR.out.box.four (.int .i64 0) (.int .i64 0) (.slice none 0 0) (.slice none 0 0)).at
    refine bodyPost_ret (v := .tuple #[.agg #[.int .i64 0, .int .i64 0, .slice none 0 0, .slice none 0 0], .int .i64 (valid v.f)]) (by simp [results, Try.results86, go_sem, cF]) rfl
      ⟨⟨zeroF, none, none, 0, 0, 0, 0⟩, HF.out.symm, rfl, FOwn.zero _ _, res_bel HB2.out (by have := hszw.out; omega) _ _ _ _⟩

/-- The first k elements are other. -/
def mixL (g : Int → Int) (k : Nat) (l : List Int) : List Int := (l.take k).map g ++ l.drop k
theorem mixL_zero (g : Int → Int) (l : List Int) : mixL g 0 l = l := by simp [mixL]
theorem mixL_all {g : Int → Int} {k : Nat} {l : List Int} (h : l.length ≤ k) : mixL g k l = l.map g := by simp [mixL, List.take_of_length_le h, List.drop_eq_nil_of_le h]
theorem mixL_length (g : Int → Int) (k : Nat) (l : List Int) : (mixL g k l).length = l.length := by simp [mixL]; omega
theorem mixL_get {g : Int → Int} {k : Nat} {l : List Int} {d : Int} (h : l[k]? = some d) : (mixL g k l)[k]? = some d := by
  obtain ⟨hk, rfl⟩ := List.getElem?_eq_some_iff.1 h
  unfold mixL
  rw [List.getElem?_append_right (by simp; omega)]
  simp [Nat.min_eq_left (Nat.le_of_lt hk), List.getElem?_drop]
theorem mixL_set {g : Int → Int} {k : Nat} {l : List Int} {d : Int} (h : l[k]? = some d) : (mixL g k l).set k (g d) = mixL g (k + 1) l := by
  obtain ⟨hk, rfl⟩ := List.getElem?_eq_some_iff.1 h
  unfold mixL
  rw [List.set_append, if_neg (by simp; omega), List.take_succ_eq_append_getElem hk, List.map_append, List.append_assoc]
  have h0 : k - (List.map g (List.take k l)).length = 0 := by simp; omega
  rw [h0, List.drop_eq_getElem_cons hk]
  rfl
theorem ints_set (l : List Int) (k : Nat) (z : Int) : (ints l).set k (.int .i64 z) = ints (l.set k z) := by simp [ints, List.map_set]
def withD (f : Fld) (ds : List Int) : Fld := { f with ds := ds }
def FV.withD (v : FV) (ds : List Int) : FV := { v with f := Ytahmdnboeenfkaa.withD v.f ds }
theorem FOwn.storeD {bl : Nat} {w : World} {v : FV} (h : FOwn bl w v) {g : Nat} (hA : v.A = some ⟨g, 0, none⟩) (k : Nat) (z : Int) : FOwn bl (w.setCell ⟨g, k, none⟩ (.int .i64 z)) (v.withD (v.f.ds.set k z)) := by
  have hd := h.ds
  rw [hA] at hd
  obtain ⟨h1, h2⟩ := hd.stored k (.int .i64 z)
  rw [ints_set] at h1
  refine ⟨by show World.ownsRow _ _ _ _ (.slice v.A v.n v.c) _ _; rw [hA]; exact h1, ?_, h.ne⟩
  refine row_far h.ps (fun j hj => ?_) _
  cases hB : v.B with
  | none => rw [hB] at hj; cases hj
  | some q => rw [hB] at hj; injection hj with hj; subst hj; exact (h.ne _ q hA hB).symm
theorem FOwn.atD {bl : Nat} {w : World} {v : FV} (h : FOwn bl w v) {k : Nat} {d : Int} (hk : v.f.ds[k]? = some d) : ∃ g, v.A = some ⟨g, 0, none⟩ ∧ bl ≤ g ∧ g < w.heap.size ∧ w.cell? ⟨g, k, none⟩ = some (.int .i64 d) ∧ ∀ i, w.frozen? ⟨g, i, none⟩ = false := by
  have hl := h.ds.1
  rw [ints_length] at hl
  have hkl := (List.getElem?_eq_some_iff.1 hk).1
  have hd := h.ds
  rcases hd.2 with ⟨hv, h0⟩ | ⟨g, cap, cur, hv, hb, hh, h1, h2, h3, h4⟩
  · omega
  · injection hv with e1 e2 e3
    rw [e1] at hd
    refine ⟨g, e1, hb, (Array.getElem?_eq_some_iff.1 hh).1, ?_, fun i => hd.frozenAt i⟩
    rw [hd.cellAt k (by omega)]
    simp [ints, hk]
end Go.Proofs.Ytahmdnboeenfkaa

namespace Go.Proofs.Ytahmdnboeenfkaa
open Go.RowKit Go.Sort

def spin1 (k d : Int) : Int := (d + k) % 8
theorem srt_of {f : Fld} (h : f.ps.Pairwise ltE) : srt f = f := by unfold srt; rw [sortE_of_lt h]
theorem spinR_bad {f : Fld} (h : valid f ≠ 0) (k : Int) : spinR f k = (zeroF, valid f) := by unfold spinR; rw [if_pos h]
theorem spinR_ok {f : Fld} (h : valid f = 0) (k : Int) : spinR f k = (spinF f k, 0) := by unfold spinR; rw [if_neg (by simpa using h)]
theorem okf_lens {f : Fld} (h : Okf f) : f.ds.length ≤ 144 ∧ f.ps.length ≤ 60 := by
  have h1 := h.len
  have h2 := Int.mul_le_mul h.w2 h.h2 (by have := h.h1; omega) (by omega)
  exact ⟨by omega, h.cnt⟩

set_option maxHeartbeats 4000000 in
set_option maxRecDepth 4000 in
theorem Spin_any (v : FV) (k : Int) (w : World) (hv : v.In w) :
    Calls Try.prog 39 #[v.val, .int .i64 k] w (RetOwn (spinR v.f k).1 (spinR v.f k).2 w) := by
  have HVv := Lib.hid hv
  clear hv
  go_enter Try.func39, Try.ntmps39
  dsimp only [FV.val]
  go_wp2_with fail
  refine (validate_any v _ (HVv.out.below (belowAA _ _ _))).mono ?_
  rintro r w1 ⟨rfl, hb1⟩
  have hR := (ResB.new w #[.int .i64 v.f.W, .int .i64 v.f.H, .slice v.A v.n v.c, .slice v.B v.m v.d] 25).on hb1
  have b0 := ((Box.new w #[.int .i64 v.f.W, .int .i64 v.f.H, .slice v.A v.n v.c, .slice v.B v.m v.d] 25).alloc (.cells #[.int .i64 0, .int .i64 0, .slice none 0 0, .slice none 0 0] 25)).below hb1
  have hw1 := Lib.hid (below2 _ _ hb1)
  clear hb1
  by_cases hz : valid v.f = 0
  case neg =>
    have hz' : (valid v.f != 0) = true := by simpa using hz
    have HF := Lib.hid (spinR_bad hz k)
    have HR := Lib.hid hR
    have cr := hR.box.at
    have fr := hR.fz
    clear hz hR
    go_wp2_with fail
    have cF := (HR.out.box.four (.int .i64 0) (.int .i64 0) (.slice none 0 0) (.slice none 0 0)).at
    exact bodyPost_ret (v := .tuple #[.agg #[.int .i64 0, .int .i64 0, .slice none 0 0, .slice none 0 0], .int .i64 (valid v.f)]) (by simp [results, Try.results39, go_sem, cF]) rfl
      ⟨⟨zeroF, none, none, 0, 0, 0, 0⟩, by rw [HF.out], by rw [HF.out]; rfl, FOwn.zero _ _, res_bel HR.out.bel HR.out.le _ _ _ _⟩
  have ok := Lib.hid (okf_of_valid hz)
  have hz' : (valid v.f != 0) = false := by simpa using hz
  have HS := Lib.hid (spinR_ok hz k)
  have HZ := Lib.hid hz
  have HV1 := Lib.hid (HVv.out.below hw1.out)
  have HRR := Lib.hid hR
  obtain ⟨n0, m0⟩ := okf_lens (okf_of_valid hz)
  have q1 : v.n ≤ 1000000 := by have := HVv.out.len; omega
  have q2 : v.m ≤ 1000000 := by have := HVv.out.lenp; omega
  have q3 : v.f.ds.length ≤ 144 := n0
  have q4 : v.f.ps.length ≤ 60 := m0
  clear hz hR n0 m0
  have c0 := b0.at
  go_wp2_with fail
  clear c0
  with_reducible refine (clone_any v _ HV1.out q1 q2).mono ?_
  rintro r w2 ⟨u, huf, rfl, ho0, hb2⟩
  have HU := Lib.hid huf
  have HO := Lib.hid ho0
  have HB2 := Lib.hid hb2
  have hun : u.n = u.f.ds.length := ho0.In.len
  have hum : u.m = u.f.ps.length := ho0.In.lenp
  have hul : u.n ≤ 144 := by rw [hun, huf]; omega
  have huml : u.m ≤ 60 := by rw [hum, huf]; omega
  have HUN := Lib.hid hun
  clear huf ho0 hb2 hun hum q1 q2 q3 q4
  dsimp only [FV.val]
  have b2 := b0.below HB2.out
  have cA := fun o => ((b2.alloc o).at)
  have cN := (Box.new w2 #[.int .i64 u.f.W, .int .i64 u.f.H, .slice u.A u.n u.c, .slice u.B u.m u.d] 25).at
  go_wp2_with fail
  clear cA cN
  refine wp_gen (fun W => Box W w2.heap.size #[.int .i64 u.f.W, .int .i64 u.f.H, .slice u.A u.n u.c, .slice u.B u.m u.d] ∧ FOwn w1.heap.size W u ∧ Below w1.heap.size w1 W ∧ Below w2.heap.size w2 W) ⟨Box.new _ _ _, HO.out.on (belowA _ _), below_trans' HB2.out (belowA _ _), belowA _ _⟩ ?_
  rintro w3 ⟨bo, ho3, hb3, hb23⟩
  have HO3 := Lib.hid ho3
  have HB3 := Lib.hid hb3
  have hAlt := Lib.hid (fun p (hp : u.A = some p) => (HO.out.blkA hp).2)
  clear ho3 hb3 hb23
  go_loopw [21] (fun i wr => ∃ j : Nat, j ≤ u.n ∧ i = .int .i64 j ∧ Box wr w2.heap.size #[.int .i64 u.f.W, .int .i64 u.f.H, .slice u.A u.n u.c, .slice u.B u.m u.d] ∧ FOwn w1.heap.size wr (u.withD (mixL (spin1 k) j u.f.ds)) ∧ Below w1.heap.size w1 wr) (fun i _ => u.n - (intOf i).toNat)
  case atStart => exact ⟨0, by omega, rfl, bo, by rw [mixL_zero]; exact HO3.out, HB3.out⟩
  case round =>
    clear bo
    obtain ⟨j, hj, rfl, bo, hoj, hbj⟩ := hrel
    have HOj := Lib.hid hoj
    have HBj := Lib.hid hbj
    by_cases hlt : j < u.n
    · have hjd : j < u.f.ds.length := by rw [← HUN.out]; exact hlt
      obtain ⟨d, hd⟩ : ∃ d, u.f.ds[j]? = some d := ⟨_, List.getElem?_eq_getElem hjd⟩
      obtain ⟨g, hg, hgl, hgw, d0, z0⟩ := hoj.atD (k := j) (d := d) (mixL_get hd)
      have hg' : u.A = some ⟨g, 0, none⟩ := hg
      have hgo := hAlt.out _ hg'
      have X : ∀ w, (Instr.indexAt 22 (.slice u.A u.n u.c) (.int .i64 (j : Int))).run Try.prog w = .ok (.pointer (some ⟨g, j, none⟩)) w := fun w => by
        have := ix22 (c := u.c) hg' hlt w
        rwa [show (⟨g, 0, none⟩ : Addr).add j = ⟨g, j, none⟩ by unfold Addr.add; split <;> simp_all] at this
      have hdb := ok.out.dir d (by rw [← HU.out]; exact List.mem_of_getElem? hd)
      obtain ⟨db0, db1⟩ := hdb
      have HSET := Lib.hid (mixL_set (g := spin1 k) hd)
      have HGD := Lib.hid hg'
      have HEV := Lib.hid (show spin1 k d = (d + k % 8) % 8 by unfold spin1; omega)
      have hne : w2.heap.size ≠ (⟨g, j, none⟩ : Addr).block := by show w2.heap.size ≠ g; have : g < w2.heap.size := hgo; omega
      have HNE := Lib.hid hne
      have k0 : 0 ≤ k % 8 := by omega
      have k1 : k % 8 ≤ 7 := by omega
      have co := bo.at
      clear hd hg hg' hoj hbj hgo hne hjd
      have z0' := z0 j
      clear z0
      go_wp2_with fail
      go_region_held3 (fun w' => ∀ i, w'.cell? ⟨w2.heap.size, i, none⟩ = (#[.int .i64 u.f.W, .int .i64 u.f.H, .slice u.A u.n u.c, .slice u.B u.m u.d] : Array Value)[i]?) (first | exact co | exact (bo.far (p := ⟨g, j, none⟩) HNE.out _).at)
        (first | (go_at_call 83; refine (mod_any _ _).mono ?_; rintro e w' ⟨rfl, rfl⟩))
      have HW := Lib.hid (show IntKind.i64.wrap (d + k % 8) = d + k % 8 from IntWalk.i64_in _ (by omega))
      rw [HW.out, ← HEV.out]
      have HO5 := Lib.hid ((HOj.out.storeD HGD.out j (spin1 k d)).on (Below.refl _ _).drew)
      have HB5 := Lib.hid (HBj.out.setCell (p := ⟨g, j, none⟩) hgl (.int .i64 (spin1 k d))).drew
      have b5 := (bo.far (p := ⟨g, j, none⟩) HNE.out (.int .i64 (spin1 k d))).drew
      clear co d0 z0' X bo
      go_wp2_with fail
      go_roundw
      case rel => exact ⟨j + 1, by omega, by go_num, b5, by rw [← HSET.out]; exact HO5.out, HB5.out⟩
      case measure => simp [intOf]; omega
    · have hres : Calls Try.prog 84 #[u.val] wr (RetOwn (spinF v.f k) 0 w1) := by
        have h := result_any (u.withD (mixL (spin1 k) j u.f.ds)) w1 wr HBj.out HOj.out (by show u.m ≤ _; omega)
        have e : (u.withD (mixL (spin1 k) j u.f.ds)).f = spinF v.f k := by
          show withD u.f _ = _
          rw [mixL_all (by have := HUN.out; omega), HU.out]; rfl
        rw [e, srt_of (spin_okf ok.out k).sorted, valid_spin HZ.out k, show fin (spinF v.f k) = spinF v.f k by unfold fin; rw [if_pos (valid_spin HZ.out k)]] at h
        exact h
      have HRES := Lib.hid hres
      have co := bo.at
      clear hoj hbj hres
      go_wp2_with fail
      with_reducible refine HRES.out.mono ?_
      rintro r w5 ⟨u', hu', rfl, ho5, hb5⟩
      have HU' := Lib.hid hu'
      have HO5 := Lib.hid ho5
      have HR5 := Lib.hid (HRR.out.on hb5)
      have hlt1 := Lib.hid HRR.out.box.1
      have cr := HR5.out.box.at
      have fr := HR5.out.fz
      clear hu' ho5 hb5 co bo
      dsimp only [FV.val]
      go_wp2_with fail
      have cF := (HR5.out.box.four (.int .i64 u'.f.W) (.int .i64 u'.f.H) (.slice u'.A u'.n u'.c) (.slice u'.B u'.m u'.d)).at
      have HE := res_own HO5.out hlt1.out HR5.out.bel HR5.out.le hw1.out.size (.int .i64 u'.f.W) (.int .i64 u'.f.H) (.slice u'.A u'.n u'.c) (.slice u'.B u'.m u'.d)
      exact bodyPost_ret (v := .tuple #[.agg #[.int .i64 u'.f.W, .int .i64 u'.f.H, .slice u'.A u'.n u'.c, .slice u'.B u'.m u'.d], .int .i64 0]) (by simp [results, Try.results39, go_sem, cF]) rfl
        ⟨u', by rw [HU'.out, HS.out], by rw [HS.out], HE.1, HE.2⟩
end Go.Proofs.Ytahmdnboeenfkaa

namespace Go.Proofs.Ytahmdnboeenfkaa
open Go.RowKit Go.Sort

set_option maxHeartbeats 4000000 in
set_option maxRecDepth 4000 in
theorem refSpin_any (v : FV) (k : Int) (w : World) (hv : v.In w) :
    Calls Try.prog 48 #[v.val, .int .i64 k] w (RetOwn (spinR v.f k).1 (spinR v.f k).2 w) := by
  have HVv := Lib.hid hv
  clear hv
  go_enter Try.func48, Try.ntmps48
  dsimp only [FV.val]
  go_wp2_with fail
  refine (refValidate_any v _ (HVv.out.below (belowAA _ _ _))).mono ?_
  rintro r w1 ⟨rfl, hb1⟩
  have hR := (ResB.new w #[.int .i64 v.f.W, .int .i64 v.f.H, .slice v.A v.n v.c, .slice v.B v.m v.d] 25).on hb1
  have b0 := ((Box.new w #[.int .i64 v.f.W, .int .i64 v.f.H, .slice v.A v.n v.c, .slice v.B v.m v.d] 25).alloc (.cells #[.int .i64 0, .int .i64 0, .slice none 0 0, .slice none 0 0] 25)).below hb1
  have hw1 := Lib.hid (below2 _ _ hb1)
  clear hb1
  by_cases hz : valid v.f = 0
  case neg =>
    have hz' : (valid v.f != 0) = true := by simpa using hz
    have HF := Lib.hid (spinR_bad hz k)
    have HR := Lib.hid hR
    have cr := hR.box.at
    have fr := hR.fz
    clear hz hR
    go_wp2_with fail
    have cF := (HR.out.box.four (.int .i64 0) (.int .i64 0) (.slice none 0 0) (.slice none 0 0)).at
    exact bodyPost_ret (v := .tuple #[.agg #[.int .i64 0, .int .i64 0, .slice none 0 0, .slice none 0 0], .int .i64 (valid v.f)]) (by simp [results, Try.results48, go_sem, cF]) rfl
      ⟨⟨zeroF, none, none, 0, 0, 0, 0⟩, by rw [HF.out], by rw [HF.out]; rfl, FOwn.zero _ _, res_bel HR.out.bel HR.out.le _ _ _ _⟩
  have ok := Lib.hid (okf_of_valid hz)
  have hz' : (valid v.f != 0) = false := by simpa using hz
  have HS := Lib.hid (spinR_ok hz k)
  have HZ := Lib.hid hz
  have HV1 := Lib.hid (HVv.out.below hw1.out)
  have HRR := Lib.hid hR
  obtain ⟨n0, m0⟩ := okf_lens (okf_of_valid hz)
  have q1 : v.f.ds.length ≤ 1000000 := by omega
  have q2 : v.f.ps.length ≤ 1000000 := by omega
  have q3 : v.f.ds.length ≤ 144 := n0
  have q4 : v.f.ps.length ≤ 60 := m0
  clear hz hR n0 m0
  have c0 := b0.at
  go_wp2_with fail
  clear c0
  with_reducible refine (copyO_any v _ HV1.out q1 q2).mono ?_
  rintro r w2 ⟨u, huf, rfl, ho0, hb2⟩
  have HU := Lib.hid huf
  have HO := Lib.hid ho0
  have HB2 := Lib.hid hb2
  have hun : u.n = u.f.ds.length := ho0.In.len
  have hum : u.m = u.f.ps.length := ho0.In.lenp
  have hul : u.n ≤ 144 := by rw [hun, huf]; omega
  have huml : u.m ≤ 60 := by rw [hum, huf]; omega
  have HUN := Lib.hid hun
  clear huf ho0 hb2 hun hum q1 q2 q3 q4
  dsimp only [FV.val]
  have b2 := b0.below HB2.out
  have cA := fun o => ((b2.alloc o).at)
  have cN := (Box.new w2 #[.int .i64 u.f.W, .int .i64 u.f.H, .slice u.A u.n u.c, .slice u.B u.m u.d] 25).at
  go_wp2_with fail
  clear cA cN
  refine wp_gen (fun W => Box W w2.heap.size #[.int .i64 u.f.W, .int .i64 u.f.H, .slice u.A u.n u.c, .slice u.B u.m u.d] ∧ FOwn w1.heap.size W u ∧ Below w1.heap.size w1 W ∧ Below w2.heap.size w2 W) ⟨Box.new _ _ _, HO.out.on (belowA _ _), below_trans' HB2.out (belowA _ _), belowA _ _⟩ ?_
  rintro w3 ⟨bo, ho3, hb3, hb23⟩
  have HO3 := Lib.hid ho3
  have HB3 := Lib.hid hb3
  have hAlt := Lib.hid (fun p (hp : u.A = some p) => (HO.out.blkA hp).2)
  clear ho3 hb3 hb23
  go_loopw [8] (fun i wr => ∃ j : Nat, j ≤ u.n ∧ i = .int .i64 j ∧ Box wr w2.heap.size #[.int .i64 u.f.W, .int .i64 u.f.H, .slice u.A u.n u.c, .slice u.B u.m u.d] ∧ FOwn w1.heap.size wr (u.withD (mixL (spin1 k) j u.f.ds)) ∧ Below w1.heap.size w1 wr) (fun i _ => u.n - (intOf i).toNat)
  case atStart => exact ⟨0, by omega, rfl, bo, by rw [mixL_zero]; exact HO3.out, HB3.out⟩
  case round =>
    clear bo
    obtain ⟨j, hj, rfl, bo, hoj, hbj⟩ := hrel
    have HOj := Lib.hid hoj
    have HBj := Lib.hid hbj
    by_cases hlt : j < u.n
    · have hjd : j < u.f.ds.length := by rw [← HUN.out]; exact hlt
      obtain ⟨d, hd⟩ : ∃ d, u.f.ds[j]? = some d := ⟨_, List.getElem?_eq_getElem hjd⟩
      obtain ⟨g, hg, hgl, hgw, d0, z0⟩ := hoj.atD (k := j) (d := d) (mixL_get hd)
      have hg' : u.A = some ⟨g, 0, none⟩ := hg
      have hgo := hAlt.out _ hg'
      have X : ∀ w, (Instr.indexAt 22 (.slice u.A u.n u.c) (.int .i64 (j : Int))).run Try.prog w = .ok (.pointer (some ⟨g, j, none⟩)) w := fun w => by
        have := ix22 (c := u.c) hg' hlt w
        rwa [show (⟨g, 0, none⟩ : Addr).add j = ⟨g, j, none⟩ by unfold Addr.add; split <;> simp_all] at this
      have hdb := ok.out.dir d (by rw [← HU.out]; exact List.mem_of_getElem? hd)
      obtain ⟨db0, db1⟩ := hdb
      have HSET := Lib.hid (mixL_set (g := spin1 k) hd)
      have HGD := Lib.hid hg'
      have HEV := Lib.hid (show spin1 k d = (d + k % 8) % 8 by unfold spin1; omega)
      have hne : w2.heap.size ≠ (⟨g, j, none⟩ : Addr).block := by show w2.heap.size ≠ g; have : g < w2.heap.size := hgo; omega
      have HNE := Lib.hid hne
      have k0 : 0 ≤ k % 8 := by omega
      have k1 : k % 8 ≤ 7 := by omega
      have co := bo.at
      clear hd hg hg' hoj hbj hgo hne hjd
      have z0' := z0 j
      clear z0
      have hj0 : (0 : Int) ≤ (j : Int) := by omega
      have hj1 : (j : Int) < (u.n : Int) := by omega
      go_wp2_with fail
      go_still_tail 13, mixed
      still_call ((eighth_any k _).mono fun _ _ h => ⟨h.1, h.2.symm⟩)
      repeat still_step
      still_call ((eighth_any _ _).mono fun _ _ h => ⟨h.1, h.2.symm⟩)
      repeat still_step
      refine wpStill_nil ?_
      change wpList _ _ _ _ _ wr.drew
      have HW := Lib.hid (show IntKind.i64.wrap (d + k % 8) = d + k % 8 from IntWalk.i64_in _ (by omega))
      rw [HW.out, ← HEV.out]
      have HO5 := Lib.hid ((HOj.out.storeD HGD.out j (spin1 k d)).on (Below.refl _ _).drew)
      have HB5 := Lib.hid (HBj.out.setCell (p := ⟨g, j, none⟩) hgl (.int .i64 (spin1 k d))).drew
      have b5 := (bo.far (p := ⟨g, j, none⟩) HNE.out (.int .i64 (spin1 k d))).drew
      clear co X bo
      go_wp2_with fail
      go_roundw
      case rel => exact ⟨j + 1, by omega, by go_num, b5, by rw [← HSET.out]; exact HO5.out, HB5.out⟩
      case measure => simp [intOf]; omega
    · have hres : Calls Try.prog 86 #[u.val] wr (RetOwn (spinF v.f k) 0 w1) := by
        have h := refResult_any (u.withD (mixL (spin1 k) j u.f.ds)) w1 wr HBj.out HOj.out
        have e : (u.withD (mixL (spin1 k) j u.f.ds)).f = spinF v.f k := by
          show withD u.f _ = _
          rw [mixL_all (by have := HUN.out; omega), HU.out]; rfl
        rw [e, valid_spin HZ.out k, show fin (spinF v.f k) = spinF v.f k by unfold fin; rw [if_pos (valid_spin HZ.out k)]] at h
        exact h
      have HRES := Lib.hid hres
      have co := bo.at
      clear hoj hbj hres
      go_wp2_with fail
      with_reducible refine HRES.out.mono ?_
      rintro r w5 ⟨u', hu', rfl, ho5, hb5⟩
      have HU' := Lib.hid hu'
      have HO5 := Lib.hid ho5
      have HR5 := Lib.hid (HRR.out.on hb5)
      have hlt1 := Lib.hid HRR.out.box.1
      have cr := HR5.out.box.at
      have fr := HR5.out.fz
      clear hu' ho5 hb5 co bo
      dsimp only [FV.val]
      go_wp2_with fail
      have cF := (HR5.out.box.four (.int .i64 u'.f.W) (.int .i64 u'.f.H) (.slice u'.A u'.n u'.c) (.slice u'.B u'.m u'.d)).at
      have HE := res_own HO5.out hlt1.out HR5.out.bel HR5.out.le hw1.out.size (.int .i64 u'.f.W) (.int .i64 u'.f.H) (.slice u'.A u'.n u'.c) (.slice u'.B u'.m u'.d)
      exact bodyPost_ret (v := .tuple #[.agg #[.int .i64 u'.f.W, .int .i64 u'.f.H, .slice u'.A u'.n u'.c, .slice u'.B u'.m u'.d], .int .i64 0]) (by simp [results, Try.results48, go_sem, cF]) rfl
        ⟨u', by rw [HU'.out, HS.out], by rw [HS.out], HE.1, HE.2⟩
end Go.Proofs.Ytahmdnboeenfkaa

namespace Go.Proofs.Ytahmdnboeenfkaa
open Go.RowKit Go.Sort

def setD (f : Fld) (x y k : Int) : Fld := withD f (f.ds.set (y * f.W + x).toNat k)
/-- Set's two results. -/
def setR (f : Fld) (x y k : Int) : Fld × Int :=
  if valid f ≠ 0 then (zeroF, valid f) else if isP f.W f.H x y = false then (zeroF, 5) else if ¬ (0 ≤ k ∧ k ≤ 7) then (zeroF, 1) else (fin (setD f x y k), valid (setD f x y k))
section
variable {f : Fld} {x y k : Int}
theorem setR_bad (h : valid f ≠ 0) : setR f x y k = (zeroF, valid f) := by unfold setR; rw [if_pos h]
theorem setR_off (h : valid f = 0) (h1 : isP f.W f.H x y = false) : setR f x y k = (zeroF, 5) := by unfold setR; rw [if_neg (by simpa using h), if_pos h1]
theorem setR_dir (h : valid f = 0) (h1 : isP f.W f.H x y = true) (h2 : ¬ (0 ≤ k ∧ k ≤ 7)) : setR f x y k = (zeroF, 1) := by unfold setR; rw [if_neg (by simpa using h), if_neg (by rw [h1]; decide), if_pos h2]
theorem setR_ok (h : valid f = 0) (h1 : isP f.W f.H x y = true) (h2 : 0 ≤ k ∧ k ≤ 7) : setR f x y k = (fin (setD f x y k), valid (setD f x y k)) := by unfold setR; rw [if_neg (by simpa using h), if_neg (by rw [h1]; decide), if_neg (by simpa using h2)]
end

set_option maxHeartbeats 4000000 in
set_option maxRecDepth 4000 in
theorem Set_any (v : FV) (x y k : Int) (w : World) (hv : v.In w) :
    Calls Try.prog 44 #[v.val, .int .i64 x, .int .i64 y, .int .i64 k] w (RetOwn (setR v.f x y k).1 (setR v.f x y k).2 w) := by
  have HVv := Lib.hid hv
  clear hv
  go_enter Try.func44, Try.ntmps44
  dsimp only [FV.val]
  go_wp2_with fail
  with_reducible refine (validate_any v _ (HVv.out.below (belowAA _ _ _))).mono ?_
  rintro r w1 ⟨rfl, hb1⟩
  have hR := (ResB.new w #[.int .i64 v.f.W, .int .i64 v.f.H, .slice v.A v.n v.c, .slice v.B v.m v.d] 25).on hb1
  have b0 := ((Box.new w #[.int .i64 v.f.W, .int .i64 v.f.H, .slice v.A v.n v.c, .slice v.B v.m v.d] 25).alloc (.cells #[.int .i64 0, .int .i64 0, .slice none 0 0, .slice none 0 0] 25)).below hb1
  have hw1 := Lib.hid (below2 _ _ hb1)
  clear hb1
  by_cases hz : valid v.f = 0
  case neg =>
    have hz' : (valid v.f != 0) = true := by simpa using hz
    have HF := Lib.hid (setR_bad (x := x) (y := y) (k := k) hz)
    have HR := Lib.hid hR
    have cr := hR.box.at
    have fr := hR.fz
    clear hz hR
    go_wp2_with fail
    have cF := (HR.out.box.four (.int .i64 0) (.int .i64 0) (.slice none 0 0) (.slice none 0 0)).at
    exact bodyPost_ret (v := .tuple #[.agg #[.int .i64 0, .int .i64 0, .slice none 0 0, .slice none 0 0], .int .i64 (valid v.f)]) (by simp [results, Try.results44, go_sem, cF]) rfl
      ⟨⟨zeroF, none, none, 0, 0, 0, 0⟩, by rw [HF.out], by rw [HF.out]; rfl, FOwn.zero _ _, res_bel HR.out.bel HR.out.le _ _ _ _⟩
  have ok := Lib.hid (okf_of_valid hz)
  have hz' : (valid v.f != 0) = false := by simpa using hz
  have HZ := Lib.hid hz
  have HV1 := Lib.hid (HVv.out.below hw1.out)
  have HRR := Lib.hid hR
  obtain ⟨n0, m0⟩ := okf_lens (okf_of_valid hz)
  have okw := ok.out.w2
  have okw1 := ok.out.w1
  have okh := ok.out.h2
  have okh1 := ok.out.h1
  clear hz hR
  have c0 := b0.at
  go_wp2_with fail
  clear c0
  with_reducible refine (has_any v x y _).mono ?_
  rintro r w2 ⟨rfl, hb2⟩
  replace b0 := b0.below hb2
  replace HV1 := Lib.hid (HV1.out.below hb2)
  replace HRR := Lib.hid (HRR.out.on hb2)
  replace hw1 := Lib.hid (below_trans' hw1.out hb2)
  clear hb2
  cases hp : isP v.f.W v.f.H x y
  case false =>
    have HF := Lib.hid (setR_off (k := k) HZ.out hp)
    have cr := HRR.out.box.at
    have fr := HRR.out.fz
    clear hp
    go_wp2_with fail
    have cF := (HRR.out.box.four (.int .i64 0) (.int .i64 0) (.slice none 0 0) (.slice none 0 0)).at
    exact bodyPost_ret (v := .tuple #[.agg #[.int .i64 0, .int .i64 0, .slice none 0 0, .slice none 0 0], .int .i64 5]) (by simp [results, Try.results44, go_sem, cF]) rfl
      ⟨⟨zeroF, none, none, 0, 0, 0, 0⟩, by rw [HF.out], by rw [HF.out]; rfl, FOwn.zero _ _, res_bel HRR.out.bel HRR.out.le _ _ _ _⟩
  have HP := Lib.hid hp
  unfold isP at hp
  rw [decide_eq_true_eq] at hp
  obtain ⟨x0, x1, y0, y1⟩ := hp
  by_cases hd : 0 ≤ k ∧ k ≤ 7
  case neg =>
    have HF := Lib.hid (setR_dir HZ.out HP.out hd)
    have cr := HRR.out.box.at
    have fr := HRR.out.fz
    by_cases hd1 : k < 0
    all_goals
      first | have hd2 : 7 < k := by omega | skip
      clear hd
      go_wp2_with fail
      have cF := (HRR.out.box.four (.int .i64 0) (.int .i64 0) (.slice none 0 0) (.slice none 0 0)).at
      exact bodyPost_ret (v := .tuple #[.agg #[.int .i64 0, .int .i64 0, .slice none 0 0, .slice none 0 0], .int .i64 1]) (by simp [results, Try.results44, go_sem, cF]) rfl
        ⟨⟨zeroF, none, none, 0, 0, 0, 0⟩, by rw [HF.out], by rw [HF.out]; rfl, FOwn.zero _ _, res_bel HRR.out.bel HRR.out.le _ _ _ _⟩
  have HD := Lib.hid hd
  obtain ⟨kd0, kd1⟩ := hd
  have q1 : v.n ≤ 1000000 := by have := HVv.out.len; omega
  have q2 : v.m ≤ 1000000 := by have := HVv.out.lenp; omega
  have HS := Lib.hid (setR_ok HZ.out HP.out HD.out)
  have HNN := Lib.hid n0
  have HMM := Lib.hid m0
  clear n0 m0
  have c0 := b0.at
  go_wp2_with fail
  clear c0
  with_reducible refine (clone_any v _ HV1.out q1 q2).mono ?_
  rintro r w3 ⟨u, huf, rfl, ho0, hb2⟩
  have HU := Lib.hid huf
  have HO := Lib.hid ho0
  have HB2 := Lib.hid hb2
  have HUN := Lib.hid (show u.n = u.f.ds.length from ho0.In.len)
  have hum := ho0.In.lenp
  have huml : u.m ≤ 60 := by rw [hum, huf]; exact HMM.out
  clear huf ho0 hb2 hum q1 q2
  obtain ⟨i0, i1, i2, i3, i4⟩ := idx_bd ok.out.w1 ok.out.w2 ok.out.h2 x0 x1 y0 y1
  obtain ⟨j, hj⟩ := Int.eq_ofNat_of_zero_le i2
  have hll := ok.out.len
  have hjd : j < u.f.ds.length := by rw [HU.out]; omega
  obtain ⟨d, hdd⟩ : ∃ d, u.f.ds[j]? = some d := ⟨_, List.getElem?_eq_getElem hjd⟩
  have hjn : j < u.n := by rw [HUN.out]; exact hjd
  obtain ⟨g, hg, hgl, hgw, d0, z0⟩ := HO.out.atD hdd
  have X : ∀ w, (Instr.indexAt 22 (.slice u.A u.n u.c) (.int .i64 (y * v.f.W + x))).run Try.prog w = .ok (.pointer (some ⟨g, j, none⟩)) w := fun w => by
    have := ix22 (c := u.c) hg hjn w
    rw [← hj] at this
    rwa [show (⟨g, 0, none⟩ : Addr).add j = ⟨g, j, none⟩ by unfold Addr.add; split <;> simp_all] at this
  have HJ := Lib.hid hj
  have HG := Lib.hid hg
  have hgl' := Lib.hid hgl
  have hgw' := Lib.hid hgw
  have HLT := Lib.hid (show ∀ p, u.A = some p → p.block < w3.heap.size from fun p hp => (HO.out.blkA hp).2)
  have d1 := fun o => (World.cell?_alloc_lt w3 o ⟨g, j, none⟩ hgw).trans d0
  have z1 := fun o => ((belowA w3 o).frozen (p := ⟨g, j, none⟩) hgw).trans (z0 j)
  clear hj hll hjd hdd hg d0 z0 hgl i3
  dsimp only [FV.val]
  have b2 := b0.below HB2.out
  have cA := fun o => ((b2.alloc o).at)
  have hne : g ≠ w3.heap.size := by omega
  go_wp2_with fail
  clear cA d1 z1 X
  have HO5 := Lib.hid ((HO.out.storeD HG.out j k).on (belowA _ (.cells #[.int .i64 u.f.W, .int .i64 u.f.H, .slice u.A u.n u.c, .slice u.B u.m u.d] 25)))
  have HB5 := Lib.hid (below_trans' (HB2.out.setCell (p := ⟨g, j, none⟩) hgl'.out (.int .i64 k)) (belowA _ (.cells #[.int .i64 u.f.W, .int .i64 u.f.H, .slice u.A u.n u.c, .slice u.B u.m u.d] 25)))
  have hres : Calls Try.prog 84 #[u.val] ((w3.setCell ⟨g, j, none⟩ (.int .i64 k)).alloc (.cells #[.int .i64 u.f.W, .int .i64 u.f.H, .slice u.A u.n u.c, .slice u.B u.m u.d] 25)) (RetOwn (fin (setD v.f x y k)) (valid (setD v.f x y k)) w2) := by
    have h := result_any (u.withD (u.f.ds.set j k)) w2 _ HB5.out HO5.out (by show u.m ≤ _; omega)
    have e : (u.withD (u.f.ds.set j k)).f = setD v.f x y k := by
      show withD u.f _ = _
      rw [HU.out, show j = (y * v.f.W + x).toNat by have := HJ.out; omega]; rfl
    rw [e, srt_of (show (setD v.f x y k).ps.Pairwise ltE from ok.out.sorted)] at h
    exact h
  have HRES := Lib.hid hres
  clear hres
  with_reducible refine HRES.out.mono ?_
  rintro r w5 ⟨u', hu', rfl, ho5, hb5⟩
  have HU' := Lib.hid hu'
  have HO6 := Lib.hid ho5
  have HR5 := Lib.hid (HRR.out.on hb5)
  have hlt1 := Lib.hid HRR.out.box.1
  have cr := HR5.out.box.at
  have fr := HR5.out.fz
  clear hu' ho5 hb5
  dsimp only [FV.val]
  go_wp2_with fail
  have cF := (HR5.out.box.four (.int .i64 u'.f.W) (.int .i64 u'.f.H) (.slice u'.A u'.n u'.c) (.slice u'.B u'.m u'.d)).at
  have HE := res_own HO6.out hlt1.out HR5.out.bel HR5.out.le hw1.out.size (.int .i64 u'.f.W) (.int .i64 u'.f.H) (.slice u'.A u'.n u'.c) (.slice u'.B u'.m u'.d)
  exact bodyPost_ret (v := .tuple #[.agg #[.int .i64 u'.f.W, .int .i64 u'.f.H, .slice u'.A u'.n u'.c, .slice u'.B u'.m u'.d], .int .i64 (valid (setD v.f x y k))]) (by simp [results, Try.results44, go_sem, cF]) rfl
    ⟨u', by rw [HU'.out, HS.out], by rw [HS.out], HE.1, HE.2⟩
set_option maxHeartbeats 4000000 in
set_option maxRecDepth 4000 in
theorem refSet_any (v : FV) (x y k : Int) (w : World) (hv : v.In w) :
    Calls Try.prog 45 #[v.val, .int .i64 x, .int .i64 y, .int .i64 k] w (RetOwn (setR v.f x y k).1 (setR v.f x y k).2 w) := by
  have HVv := Lib.hid hv
  clear hv
  go_enter Try.func45, Try.ntmps45
  dsimp only [FV.val]
  go_wp2_with fail
  with_reducible refine (refValidate_any v _ (HVv.out.below (belowAA _ _ _))).mono ?_
  rintro r w1 ⟨rfl, hb1⟩
  have hR := (ResB.new w #[.int .i64 v.f.W, .int .i64 v.f.H, .slice v.A v.n v.c, .slice v.B v.m v.d] 25).on hb1
  have b0 := ((Box.new w #[.int .i64 v.f.W, .int .i64 v.f.H, .slice v.A v.n v.c, .slice v.B v.m v.d] 25).alloc (.cells #[.int .i64 0, .int .i64 0, .slice none 0 0, .slice none 0 0] 25)).below hb1
  have hw1 := Lib.hid (below2 _ _ hb1)
  clear hb1
  by_cases hz : valid v.f = 0
  case neg =>
    have hz' : (valid v.f != 0) = true := by simpa using hz
    have HF := Lib.hid (setR_bad (x := x) (y := y) (k := k) hz)
    have HR := Lib.hid hR
    have cr := hR.box.at
    have fr := hR.fz
    clear hz hR
    go_wp2_with fail
    have cF := (HR.out.box.four (.int .i64 0) (.int .i64 0) (.slice none 0 0) (.slice none 0 0)).at
    exact bodyPost_ret (v := .tuple #[.agg #[.int .i64 0, .int .i64 0, .slice none 0 0, .slice none 0 0], .int .i64 (valid v.f)]) (by simp [results, Try.results45, go_sem, cF]) rfl
      ⟨⟨zeroF, none, none, 0, 0, 0, 0⟩, by rw [HF.out], by rw [HF.out]; rfl, FOwn.zero _ _, res_bel HR.out.bel HR.out.le _ _ _ _⟩
  have ok := Lib.hid (okf_of_valid hz)
  have hz' : (valid v.f != 0) = false := by simpa using hz
  have HZ := Lib.hid hz
  have HV1 := Lib.hid (HVv.out.below hw1.out)
  have HRR := Lib.hid hR
  obtain ⟨n0, m0⟩ := okf_lens (okf_of_valid hz)
  have okw := ok.out.w2
  have okw1 := ok.out.w1
  have okh := ok.out.h2
  have okh1 := ok.out.h1
  clear hz hR
  have c0 := b0.at
  go_wp2_with fail
  clear c0
  with_reducible refine (isPlace_any v x y _ okw1 okw okh1 okh).mono ?_
  rintro r w2 ⟨rfl, hb2⟩
  replace b0 := b0.below hb2
  replace HV1 := Lib.hid (HV1.out.below hb2)
  replace HRR := Lib.hid (HRR.out.on hb2)
  replace hw1 := Lib.hid (below_trans' hw1.out hb2)
  clear hb2
  cases hp : isP v.f.W v.f.H x y
  case false =>
    have HF := Lib.hid (setR_off (k := k) HZ.out hp)
    have cr := HRR.out.box.at
    have fr := HRR.out.fz
    clear hp
    go_wp2_with fail
    have cF := (HRR.out.box.four (.int .i64 0) (.int .i64 0) (.slice none 0 0) (.slice none 0 0)).at
    exact bodyPost_ret (v := .tuple #[.agg #[.int .i64 0, .int .i64 0, .slice none 0 0, .slice none 0 0], .int .i64 5]) (by simp [results, Try.results45, go_sem, cF]) rfl
      ⟨⟨zeroF, none, none, 0, 0, 0, 0⟩, by rw [HF.out], by rw [HF.out]; rfl, FOwn.zero _ _, res_bel HRR.out.bel HRR.out.le _ _ _ _⟩
  have HP := Lib.hid hp
  unfold isP at hp
  rw [decide_eq_true_eq] at hp
  obtain ⟨x0, x1, y0, y1⟩ := hp
  by_cases hd : 0 ≤ k ∧ k ≤ 7
  case neg =>
    have HF := Lib.hid (setR_dir HZ.out HP.out hd)
    have cr := HRR.out.box.at
    have fr := HRR.out.fz
    go_wp2_with fail
    with_reducible refine (within_f k 0 7 _ hd).mono ?_
    rintro r w' ⟨rfl, rfl⟩
    clear hd
    go_wp2_with fail
    have cF := (HRR.out.box.four (.int .i64 0) (.int .i64 0) (.slice none 0 0) (.slice none 0 0)).at
    exact bodyPost_ret (v := .tuple #[.agg #[.int .i64 0, .int .i64 0, .slice none 0 0, .slice none 0 0], .int .i64 1]) (by simp [results, Try.results45, go_sem, cF]) rfl
      ⟨⟨zeroF, none, none, 0, 0, 0, 0⟩, by rw [HF.out], by rw [HF.out]; rfl, FOwn.zero _ _, res_bel HRR.out.bel HRR.out.le _ _ _ _⟩
  have HD := Lib.hid hd
  obtain ⟨kd0, kd1⟩ := hd
  have q1 : v.f.ds.length ≤ 1000000 := by have := HVv.out.len; omega
  have q2 : v.f.ps.length ≤ 1000000 := by have := HVv.out.lenp; omega
  have HS := Lib.hid (setR_ok HZ.out HP.out HD.out)
  have HNN := Lib.hid n0
  have HMM := Lib.hid m0
  clear n0 m0
  have c0 := b0.at
  go_wp2_with fail
  with_reducible refine (within_t k 0 7 _ HD.out).mono ?_
  rintro r w' ⟨rfl, rfl⟩
  go_wp2_with fail
  clear c0
  with_reducible refine (copyO_any v _ HV1.out q1 q2).mono ?_
  rintro r w3 ⟨u, huf, rfl, ho0, hb2⟩
  have HU := Lib.hid huf
  have HO := Lib.hid ho0
  have HB2 := Lib.hid hb2
  have HUN := Lib.hid (show u.n = u.f.ds.length from ho0.In.len)
  have hum := ho0.In.lenp
  have huml : u.m ≤ 60 := by rw [hum, huf]; exact HMM.out
  clear huf ho0 hb2 hum q1 q2
  obtain ⟨i0, i1, i2, i3, i4⟩ := idx_bd ok.out.w1 ok.out.w2 ok.out.h2 x0 x1 y0 y1
  obtain ⟨j, hj⟩ := Int.eq_ofNat_of_zero_le i2
  have hll := ok.out.len
  have hjd : j < u.f.ds.length := by rw [HU.out]; omega
  obtain ⟨d, hdd⟩ : ∃ d, u.f.ds[j]? = some d := ⟨_, List.getElem?_eq_getElem hjd⟩
  have hjn : j < u.n := by rw [HUN.out]; exact hjd
  obtain ⟨g, hg, hgl, hgw, d0, z0⟩ := HO.out.atD hdd
  have X : ∀ w, (Instr.indexAt 22 (.slice u.A u.n u.c) (.int .i64 (y * v.f.W + x))).run Try.prog w = .ok (.pointer (some ⟨g, j, none⟩)) w := fun w => by
    have := ix22 (c := u.c) hg hjn w
    rw [← hj] at this
    rwa [show (⟨g, 0, none⟩ : Addr).add j = ⟨g, j, none⟩ by unfold Addr.add; split <;> simp_all] at this
  have HJ := Lib.hid hj
  have HG := Lib.hid hg
  have hgl' := Lib.hid hgl
  have hgw' := Lib.hid hgw
  have HLT := Lib.hid (show ∀ p, u.A = some p → p.block < w3.heap.size from fun p hp => (HO.out.blkA hp).2)
  have d1 := fun o => (World.cell?_alloc_lt w3 o ⟨g, j, none⟩ hgw).trans d0
  have z1 := fun o => ((belowA w3 o).frozen (p := ⟨g, j, none⟩) hgw).trans (z0 j)
  clear hj hll hjd hdd hg d0 z0 hgl i3
  dsimp only [FV.val]
  have b2 := b0.below HB2.out
  have cA := fun o => ((b2.alloc o).at)
  have hne : g ≠ w3.heap.size := by omega
  go_wp2_with fail
  clear cA d1 z1 X
  have HO5 := Lib.hid ((HO.out.storeD HG.out j k).on (belowA _ (.cells #[.int .i64 u.f.W, .int .i64 u.f.H, .slice u.A u.n u.c, .slice u.B u.m u.d] 25)))
  have HB5 := Lib.hid (below_trans' (HB2.out.setCell (p := ⟨g, j, none⟩) hgl'.out (.int .i64 k)) (belowA _ (.cells #[.int .i64 u.f.W, .int .i64 u.f.H, .slice u.A u.n u.c, .slice u.B u.m u.d] 25)))
  have hres : Calls Try.prog 86 #[u.val] ((w3.setCell ⟨g, j, none⟩ (.int .i64 k)).alloc (.cells #[.int .i64 u.f.W, .int .i64 u.f.H, .slice u.A u.n u.c, .slice u.B u.m u.d] 25)) (RetOwn (fin (setD v.f x y k)) (valid (setD v.f x y k)) w2) := by
    have h := refResult_any (u.withD (u.f.ds.set j k)) w2 _ HB5.out HO5.out
    have e : (u.withD (u.f.ds.set j k)).f = setD v.f x y k := by
      show withD u.f _ = _
      rw [HU.out, show j = (y * v.f.W + x).toNat by have := HJ.out; omega]; rfl
    rw [e] at h
    exact h
  have HRES := Lib.hid hres
  clear hres
  with_reducible refine HRES.out.mono ?_
  rintro r w5 ⟨u', hu', rfl, ho5, hb5⟩
  have HU' := Lib.hid hu'
  have HO6 := Lib.hid ho5
  have HR5 := Lib.hid (HRR.out.on hb5)
  have hlt1 := Lib.hid HRR.out.box.1
  have cr := HR5.out.box.at
  have fr := HR5.out.fz
  clear hu' ho5 hb5
  dsimp only [FV.val]
  go_wp2_with fail
  have cF := (HR5.out.box.four (.int .i64 u'.f.W) (.int .i64 u'.f.H) (.slice u'.A u'.n u'.c) (.slice u'.B u'.m u'.d)).at
  have HE := res_own HO6.out hlt1.out HR5.out.bel HR5.out.le hw1.out.size (.int .i64 u'.f.W) (.int .i64 u'.f.H) (.slice u'.A u'.n u'.c) (.slice u'.B u'.m u'.d)
  exact bodyPost_ret (v := .tuple #[.agg #[.int .i64 u'.f.W, .int .i64 u'.f.H, .slice u'.A u'.n u'.c, .slice u'.B u'.m u'.d], .int .i64 (valid (setD v.f x y k))]) (by simp [results, Try.results45, go_sem, cF]) rfl
    ⟨u', by rw [HU'.out, HS.out], by rw [HS.out], HE.1, HE.2⟩
end Go.Proofs.Ytahmdnboeenfkaa

namespace Go.Proofs.Ytahmdnboeenfkaa
open Go.RowKit Go.Sort

/-- The first k elements are told by their number. -/
def mixG (g : Nat → Int) (k : Nat) (l : List Int) : List Int := (List.range k).map g ++ l.drop k
theorem mixG_zero (g : Nat → Int) (l : List Int) : mixG g 0 l = l := by simp [mixG]
theorem mixG_all {g : Nat → Int} {k : Nat} {l : List Int} (h : l.length = k) : mixG g k l = (List.range k).map g := by simp [mixG, List.drop_eq_nil_of_le (Nat.le_of_eq h)]
theorem mixG_get {g : Nat → Int} {k : Nat} {l : List Int} (h : k < l.length) : (mixG g k l)[k]? = some l[k] := by
  unfold mixG
  rw [List.getElem?_append_right (by simp)]
  simp [List.getElem?_drop, h]
theorem mixG_set {g : Nat → Int} {k : Nat} {l : List Int} (h : k < l.length) : (mixG g k l).set k (g k) = mixG g (k + 1) l := by
  unfold mixG
  rw [List.set_append, if_neg (by simp), List.range_succ, List.map_append, List.append_assoc]
  have h0 : k - (List.map g (List.range k)).length = 0 := by simp
  rw [h0, List.drop_eq_getElem_cons h]
  rfl
def mixE (h : Edg → Edg) (k : Nat) (l : List Edg) : List Edg := (l.take k).map h ++ l.drop k
theorem mixE_zero (h : Edg → Edg) (l : List Edg) : mixE h 0 l = l := by simp [mixE]
theorem mixE_all {h : Edg → Edg} {k : Nat} {l : List Edg} (e : l.length ≤ k) : mixE h k l = l.map h := by simp [mixE, List.take_of_length_le e, List.drop_eq_nil_of_le e]
theorem mixE_get {h : Edg → Edg} {k : Nat} {l : List Edg} {d : Edg} (e : l[k]? = some d) : (mixE h k l)[k]? = some d := by
  obtain ⟨hk, rfl⟩ := List.getElem?_eq_some_iff.1 e
  unfold mixE
  rw [List.getElem?_append_right (by simp; omega)]
  simp [Nat.min_eq_left (Nat.le_of_lt hk), List.getElem?_drop]
theorem mixE_set {h : Edg → Edg} {k : Nat} {l : List Edg} {d : Edg} (e : l[k]? = some d) : (mixE h k l).set k (h d) = mixE h (k + 1) l := by
  obtain ⟨hk, rfl⟩ := List.getElem?_eq_some_iff.1 e
  unfold mixE
  rw [List.set_append, if_neg (by simp; omega), List.take_succ_eq_append_getElem hk, List.map_append, List.append_assoc]
  have h0 : k - (List.map h (List.take k l)).length = 0 := by simp; omega
  rw [h0, List.drop_eq_getElem_cons hk]
  rfl
theorem edgs_set {l : List Edg} {k : Nat} {e : Edg} (h : l[k]? = some e) (z : Int) : (edgs l).set (k * 3) (.int .i64 z) = edgs (l.set k (z, e.2.1, e.2.2)) := by
  induction l generalizing k with
  | nil => simp at h
  | cons a l ih =>
    cases k with
    | zero =>
      simp at h; subst h
      rfl
    | succ k =>
      have h' : l[k]? = some e := by simpa using h
      show (ecells a ++ edgs l).set _ _ = ecells a ++ edgs (l.set k _)
      rw [List.set_append, if_neg (by simp [ecells]; omega), ← ih h']
      congr 2
      simp [ecells]; omega
def withP (f : Fld) (ps : List Edg) : Fld := { f with ps := ps }
def FV.withP (v : FV) (ps : List Edg) : FV := { v with f := Ytahmdnboeenfkaa.withP v.f ps }
theorem FOwn.atP {bl : Nat} {w : World} {v : FV} (h : FOwn bl w v) {k : Nat} {e : Edg} (hk : v.f.ps[k]? = some e) : ∃ g, v.B = some ⟨g, 0, none⟩ ∧ bl ≤ g ∧ g < w.heap.size ∧ w.cell? ⟨g, k * 3, none⟩ = some (.int .i64 e.1) ∧
    w.cell? ⟨g, k * 3 + 1, none⟩ = some (.int .i64 e.2.1) ∧ w.cell? ⟨g, k * 3 + 2, none⟩ = some (.int .i64 e.2.2) ∧ ∀ i, w.frozen? ⟨g, i, none⟩ = false := by
  have hl := h.ps.1
  rw [edgs_length] at hl
  have hkl := (List.getElem?_eq_some_iff.1 hk).1
  have hx : v.f.ps.getD k (0, 0, 0) = e := by simp [List.getD_eq_getElem?_getD, hk]
  obtain ⟨r0, r1, r2⟩ := edgs_get hkl
  rw [hx] at r0 r1 r2
  have hd := h.ps
  rcases hd.2 with ⟨hv, h0⟩ | ⟨g, cap, cur, hv, hb, hh, h1, h2, h3, h4⟩
  · omega
  · injection hv with e1 e2 e3
    rw [e1] at hd
    exact ⟨g, e1, hb, (Array.getElem?_eq_some_iff.1 hh).1, (hd.cellAt _ (by omega)).trans r0, (hd.cellAt _ (by omega)).trans r1, (hd.cellAt _ (by omega)).trans r2, fun i => hd.frozenAt i⟩
theorem FOwn.storeP {bl : Nat} {w : World} {v : FV} (h : FOwn bl w v) {g : Nat} (hB : v.B = some ⟨g, 0, none⟩) {k : Nat} {e : Edg} (hk : v.f.ps[k]? = some e) (z : Int) : FOwn bl (w.setCell ⟨g, k * 3, none⟩ (.int .i64 z)) (v.withP (v.f.ps.set k (z, e.2.1, e.2.2))) := by
  have hd := h.ps
  rw [hB] at hd
  obtain ⟨h1, h2⟩ := hd.stored (k * 3) (.int .i64 z)
  rw [edgs_set hk] at h1
  refine ⟨?_, by show World.ownsRow _ _ _ _ (.slice v.B v.m v.d) _ _; rw [hB]; exact h1, h.ne⟩
  refine row_far h.ds (fun j hj => ?_) _
  cases hA : v.A with
  | none => rw [hA] at hj; cases hj
  | some q => rw [hA] at hj; injection hj with hj; subst hj; exact (h.ne _ ⟨g, 0, none⟩ hA hB : q.block ≠ g)
theorem mod_b (n : Int) (w : World) : Calls Try.prog 83 #[.int .i64 n] w fun e w' => e = .returned (.int .i64 (n % 8)) ∧ Below w.heap.size w w' :=
  (mod_any n w).mono fun _ _ h => ⟨h.1, h.2 ▸ Below.refl _ _⟩
theorem eighth_b (n : Int) (w : World) : Calls Try.prog 91 #[.int .i64 n] w fun e w' => e = .returned (.int .i64 (n % 8)) ∧ Below w.heap.size w w' :=
  (eighth_any n w).mono fun _ _ h => ⟨h.1, h.2 ▸ Below.refl _ _⟩

theorem isE_bd {W H : Int} {e : Edg} (h : isE W H e = true) : 0 ≤ e.1 ∧ e.1 < W ∧ (e.2.2 = 0 ∨ e.2.2 = 1) := by
  unfold isE at h
  simp at h
  omega
def mirG (f : Fld) (i : Nat) : Int := (4 - f.dir (f.W - 1 - ((i % f.W.toNat : Nat) : Int)) ((i / f.W.toNat : Nat) : Int)) % 8
def mirE (W : Int) (e : Edg) : Edg := (W - 2 + e.2.2 - e.1, e.2.1, e.2.2)
def mirF (f : Fld) : Fld := ⟨f.W, f.H, (List.range (f.W * f.H).toNat).map (mirG f), sortE (f.ps.map (mirE f.W))⟩
def mirR (f : Fld) : Fld × Int := if valid f ≠ 0 then (zeroF, valid f) else (fin (mirF f), valid (mirF f))
theorem mirR_bad {f : Fld} (h : valid f ≠ 0) : mirR f = (zeroF, valid f) := by unfold mirR; rw [if_pos h]
theorem mirR_ok {f : Fld} (h : valid f = 0) : mirR f = (fin (mirF f), valid (mirF f)) := by unfold mirR; rw [if_neg (by simpa using h)]
theorem mirG_at {f : Fld} {x y : Nat} {Wn : Nat} (hW : f.W = (Wn : Int)) (hx : x < Wn) : mirG f (y * Wn + x) = (4 - f.dir (f.W - 1 - (x : Int)) (y : Int)) % 8 := by
  have h1 : (y * Wn + x) % f.W.toNat = x := by rw [hW, Int.toNat_natCast, Nat.add_comm, Nat.add_mul_mod_self_right, Nat.mod_eq_of_lt hx]
  have h2 : (y * Wn + x) / f.W.toNat = y := by rw [hW, Int.toNat_natCast, Nat.add_comm, Nat.add_mul_div_right _ _ (by omega), Nat.div_eq_of_lt hx, Nat.zero_add]
  unfold mirG
  rw [h1, h2]

set_option maxHeartbeats 4000000 in
set_option maxRecDepth 100000 in
theorem Mirror_any (v : FV) (w : World) (hv : v.In w) :
    Calls Try.prog 49 #[v.val] w (RetOwn (mirR v.f).1 (mirR v.f).2 w) := by
  have HVv := Lib.hid hv
  clear hv
  go_enter Try.func49, Try.ntmps49
  dsimp only [FV.val]
  go_wp2_with fail
  with_reducible refine (validate_any v _ (HVv.out.below (belowAA _ _ _))).mono ?_
  rintro r w1 ⟨rfl, hb1⟩
  have hR := (ResB.new w #[.int .i64 v.f.W, .int .i64 v.f.H, .slice v.A v.n v.c, .slice v.B v.m v.d] 25).on hb1
  have b0 := ((Box.new w #[.int .i64 v.f.W, .int .i64 v.f.H, .slice v.A v.n v.c, .slice v.B v.m v.d] 25).alloc (.cells #[.int .i64 0, .int .i64 0, .slice none 0 0, .slice none 0 0] 25)).below hb1
  have hw1 := Lib.hid (below2 _ _ hb1)
  clear hb1
  by_cases hz : valid v.f = 0
  case neg =>
    have hz' : (valid v.f != 0) = true := by simpa using hz
    have HF := Lib.hid (mirR_bad hz)
    have HR := Lib.hid hR
    have cr := hR.box.at
    have fr := hR.fz
    clear hz hR
    go_wp2_with fail
    have cF := (HR.out.box.four (.int .i64 0) (.int .i64 0) (.slice none 0 0) (.slice none 0 0)).at
    exact bodyPost_ret (v := .tuple #[.agg #[.int .i64 0, .int .i64 0, .slice none 0 0, .slice none 0 0], .int .i64 (valid v.f)]) (by simp [results, Try.results49, go_sem, cF]) rfl
      ⟨⟨zeroF, none, none, 0, 0, 0, 0⟩, by rw [HF.out], by rw [HF.out]; rfl, FOwn.zero _ _, res_bel HR.out.bel HR.out.le _ _ _ _⟩
  have ok := Lib.hid (okf_of_valid hz)
  have hz' : (valid v.f != 0) = false := by simpa using hz
  have HS := Lib.hid (mirR_ok hz)
  have HZ := Lib.hid hz
  have HV1 := Lib.hid (HVv.out.below hw1.out)
  have HRR := Lib.hid hR
  obtain ⟨n0, m0⟩ := okf_lens (okf_of_valid hz)
  have okw := ok.out.w2
  have okw1 := ok.out.w1
  have okh := ok.out.h2
  have okh1 := ok.out.h1
  have q1 : v.n ≤ 1000000 := by have := HVv.out.len; omega
  have q2 : v.m ≤ 1000000 := by have := HVv.out.lenp; omega
  have HN0 := Lib.hid n0
  have HM0 := Lib.hid m0
  clear hz hR n0 m0
  have c0 := b0.at
  go_wp2_with fail
  clear c0
  with_reducible refine (clone_any v _ HV1.out q1 q2).mono ?_
  rintro r w2 ⟨u, huf, rfl, ho0, hb2⟩
  have HU := Lib.hid huf
  have HO := Lib.hid ho0
  have HB2 := Lib.hid hb2
  have HUN := Lib.hid (show u.n = u.f.ds.length from ho0.In.len)
  have HUM := Lib.hid (show u.m = u.f.ps.length from ho0.In.lenp)
  have hul : u.n ≤ 144 := by rw [HUN.out, huf]; exact HN0.out
  have huml : u.m ≤ 60 := by rw [HUM.out, huf]; exact HM0.out
  obtain ⟨Wn, hWn⟩ := Int.eq_ofNat_of_zero_le (show 0 ≤ v.f.W by omega)
  obtain ⟨Hn, hHn⟩ := Int.eq_ofNat_of_zero_le (show 0 ≤ v.f.H by omega)
  have hunl : u.n = Wn * Hn := by
    have h1 := ok.out.len
    rw [HUN.out, huf]
    rw [hWn, hHn] at h1
    exact_mod_cast h1
  have HUL := Lib.hid hunl
  have HW := Lib.hid hWn
  have HH := Lib.hid hHn
  have hWn1 : (Wn : Int) ≤ v.f.W := by omega
  have hWn2 : v.f.W ≤ (Wn : Int) := by omega
  have hHn1 : (Hn : Int) ≤ v.f.H := by omega
  have hHn2 : v.f.H ≤ (Hn : Int) := by omega
  clear huf ho0 hb2 q1 q2 hWn hHn hunl
  dsimp only [FV.val]
  have b2 := b0.below HB2.out
  have cA := fun o => ((b2.alloc o).at)
  have cN := (Box.new w2 #[.int .i64 u.f.W, .int .i64 u.f.H, .slice u.A u.n u.c, .slice u.B u.m u.d] 25).at
  go_wp2_with fail
  clear cA cN
  refine wp_gen (fun W => Box W w2.heap.size #[.int .i64 u.f.W, .int .i64 u.f.H, .slice u.A u.n u.c, .slice u.B u.m u.d] ∧ FOwn w1.heap.size W u ∧ Below w1.heap.size w1 W) ⟨Box.new _ _ _, HO.out.on (belowA _ _), below_trans' HB2.out (belowA _ _)⟩ ?_
  rintro w3 ⟨bo, ho3, hb3⟩
  have HO3 := Lib.hid ho3
  have HB3 := Lib.hid hb3
  have hAlt := Lib.hid (fun p (hp : u.A = some p) => (HO.out.blkA hp).2)
  have hBlt := Lib.hid (fun p (hp : u.B = some p) => (HO.out.blkB hp).2)
  clear ho3 hb3 b2
  go_loopw [20] (fun i wr => ∃ y : Nat, (y : Int) ≤ v.f.H ∧ i = .int .i64 y ∧ Box wr w2.heap.size #[.int .i64 u.f.W, .int .i64 u.f.H, .slice u.A u.n u.c, .slice u.B u.m u.d] ∧ FOwn w1.heap.size wr (u.withD (mixG (mirG v.f) (y * Wn) u.f.ds)) ∧ Below w1.heap.size w1 wr) (fun i _ => (v.f.H - intOf i).toNat)
  case atStart => exact ⟨0, by omega, rfl, bo, by rw [Nat.zero_mul, mixG_zero]; exact HO3.out, HB3.out⟩
  case round =>
    clear bo
    obtain ⟨y, hy, rfl, bo, hoy, hby⟩ := hrel
    have HOy := Lib.hid hoy
    have HBy := Lib.hid hby
    have b3 := b0.below hby
    by_cases hlty : (y : Int) < v.f.H
    · have c0 := b3.at
      clear hoy hby
      go_wp2_with fail
      clear c0
      go_loopw [25] (fun i wr => ∃ x : Nat, (x : Int) ≤ v.f.W ∧ i = .int .i64 x ∧ Box wr w2.heap.size #[.int .i64 u.f.W, .int .i64 u.f.H, .slice u.A u.n u.c, .slice u.B u.m u.d] ∧ FOwn w1.heap.size wr (u.withD (mixG (mirG v.f) (y * Wn + x) u.f.ds)) ∧ Below w1.heap.size w1 wr) (fun i _ => (v.f.W - intOf i).toNat)
      case atStart => exact ⟨0, by omega, rfl, bo, HOy.out, HBy.out⟩
      case round =>
        clear bo b3
        obtain ⟨x, hx, rfl, bo, hox, hbx⟩ := hrel
        have HOx := Lib.hid hox
        have HBx := Lib.hid hbx
        have b3 := b0.below hbx
        by_cases hltx : (x : Int) < v.f.W
        · obtain ⟨i0, i1, i2, i3, i4⟩ := idx_bd okw1 okw okh (show (0 : Int) ≤ x by omega) hltx (show (0 : Int) ≤ y by omega) hlty
          have hxW : x < Wn := by omega
          have hkn : y * Wn + x < u.n := by
            rw [HUL.out]
            have : y + 1 ≤ Hn := by omega
            have := Nat.mul_le_mul_right Wn this
            rw [Nat.add_mul, Nat.one_mul, Nat.mul_comm Hn] at this
            omega
          have hkd : y * Wn + x < u.f.ds.length := by rw [← HUN.out]; exact hkn
          obtain ⟨g, hg, hgl, hgw, d0, z0⟩ := hox.atD (k := y * Wn + x) (mixG_get hkd)
          have hg' : u.A = some ⟨g, 0, none⟩ := hg
          have hgo : g < w2.heap.size := hAlt.out _ hg'
          have hke : (y : Int) * v.f.W + (x : Int) = ((y * Wn + x : Nat) : Int) := by rw [HW.out]; push_cast; rfl
          have X : ∀ w, (Instr.indexAt 22 (.slice u.A u.n u.c) (.int .i64 ((y : Int) * v.f.W + (x : Int)))).run Try.prog w = .ok (.pointer (some ⟨g, y * Wn + x, none⟩)) w := fun w => by
            have := ix22 (c := u.c) hg' hkn w
            rw [← hke] at this
            rwa [show (⟨g, 0, none⟩ : Addr).add (y * Wn + x) = ⟨g, y * Wn + x, none⟩ by unfold Addr.add; split <;> simp_all] at this
          have HSET := Lib.hid (mixG_set (g := mirG v.f) hkd)
          have HGV := Lib.hid (mirG_at (f := v.f) (y := y) HW.out hxW)
          have hdb := dir_bd ok.out (v.f.W - 1 - (x : Int)) (y : Int) (by omega) (by omega) (by omega) hlty
          obtain ⟨db0, db1⟩ := hdb
          have HG := Lib.hid hg'
          have HNE := Lib.hid (show w2.heap.size ≠ (⟨g, y * Wn + x, none⟩ : Addr).block from by show w2.heap.size ≠ g; omega)
          have HV3 := Lib.hid (HV1.out.below hbx)
          have Q0 := Lib.hid (fun w5 (hb : Below wr.heap.size wr w5) => at_any v (v.f.W - 1 - (x : Int)) (y : Int) w5 (HV3.out.below hb) ok.out.size (by omega) (by omega) (by omega) hlty)
          have co := bo.rg
          have c3 := b3.rg
          have hgl' := Lib.hid hgl
          have hgw' := Lib.hid hgw
          have D0 := Lib.hid d0
          have Z0 := Lib.hid z0
          clear hox hbx hg hg' hkn hke d0 z0 hgl hgw hgo
          go_wp2_with fail
          generalize v.f.dir (v.f.W - 1 - (x : Int)) (y : Int) = dd at db0 db1 HGV Q0
          refine wp_region_qt 19 mixed (by kernel_rfl) ?_
          simp only [List.take_succ_cons, List.take_zero, List.drop_succ_cons, List.drop_zero]
          repeat (go_big_quiet_step (first | exact rg_call Q0.out _ _ | exact rg_call (fun w _ => mod_b _ w) _ _))
          refine wpQuiet_nil ?_
          intro w4 hb4
          have d4 := (hb4.cell (p := ⟨g, y * Wn + x, none⟩) hgw'.out).trans D0.out
          have z4 := (hb4.frozen (p := ⟨g, y * Wn + x, none⟩) hgw'.out).trans (Z0.out (y * Wn + x))
          have HO5 := Lib.hid ((HOx.out.on hb4).storeD HG.out (y * Wn + x) (mirG v.f (y * Wn + x)))
          have HB5 := Lib.hid ((below_trans' HBx.out hb4).setCell (p := ⟨g, y * Wn + x, none⟩) hgl'.out (.int .i64 (mirG v.f (y * Wn + x))))
          have b5 := (bo.below hb4).far (p := ⟨g, y * Wn + x, none⟩) HNE.out (.int .i64 (mirG v.f (y * Wn + x)))
          rw [← HGV.out]
          clear hb4 co c3 bo b3 X D0 Z0
          go_wp2_with fail
          go_roundw
          case rel => exact ⟨x + 1, by omega, by go_num, b5, by rw [← Nat.add_assoc, ← HSET.out]; exact HO5.out, HB5.out⟩
          case measure => simp [intOf]; omega
        · have HX := Lib.hid (show y * Wn + x = (y + 1) * Wn by rw [show x = Wn by omega, Nat.add_mul, Nat.one_mul])
          clear hox hbx
          go_wp2_with fail
          go_roundw
          case rel => exact ⟨y + 1, by omega, by go_num, bo, by rw [← HX.out]; exact HOx.out, HBx.out⟩
          case measure => simp [intOf]; omega
    · have hds : mixG (mirG v.f) (y * Wn) u.f.ds = (mirF v.f).ds := by
        have h1 : y = Hn := by omega
        have h2 : u.f.ds.length = y * Wn := by rw [← HUN.out, HUL.out, h1, Nat.mul_comm]
        rw [mixG_all h2]
        unfold mirF
        rw [HW.out, HH.out, h1, Nat.mul_comm]
        rfl
      have HD := Lib.hid (show FOwn w1.heap.size wr (u.withD (mirF v.f).ds) by rw [← hds]; exact hoy)
      have co := bo.at
      clear hoy hby HOy hds
      go_wp2_with fail
      clear co
      refine wp_gen (fun W => Box W w2.heap.size #[.int .i64 u.f.W, .int .i64 u.f.H, .slice u.A u.n u.c, .slice u.B u.m u.d] ∧ FOwn w1.heap.size W (u.withD (mirF v.f).ds) ∧ Below w1.heap.size w1 W) ⟨bo, HD.out, HBy.out⟩ ?_
      clear bo b3 HBy HD HO3 HB3 hy hlty
      rintro w4 ⟨bo, hd4, hb4⟩
      have HD4 := Lib.hid hd4
      have HB4 := Lib.hid hb4
      clear hd4 hb4
      go_loopw [52] (fun i wr => ∃ k : Nat, k ≤ u.m ∧ i = .int .i64 k ∧ Box wr w2.heap.size #[.int .i64 u.f.W, .int .i64 u.f.H, .slice u.A u.n u.c, .slice u.B u.m u.d] ∧ FOwn w1.heap.size wr ((u.withD (mirF v.f).ds).withP (mixE (mirE v.f.W) k u.f.ps)) ∧ Below w1.heap.size w1 wr) (fun i _ => u.m - (intOf i).toNat)
      case atStart => exact ⟨0, by omega, rfl, bo, by rw [mixE_zero]; exact HD4.out, HB4.out⟩
      case round =>
        clear bo
        obtain ⟨k, hk, rfl, bo, hok, hbk⟩ := hrel
        have HOk := Lib.hid hok
        have HBk := Lib.hid hbk
        have b3 := b0.below hbk
        by_cases hlt : k < u.m
        · have hkd : k < u.f.ps.length := by rw [← HUM.out]; exact hlt
          obtain ⟨e, he⟩ : ∃ e, u.f.ps[k]? = some e := ⟨_, List.getElem?_eq_getElem hkd⟩
          obtain ⟨g, hg, hgl, hgw, d0, d1, d2, z0⟩ := hok.atP (k := k) (e := e) (mixE_get he)
          have hg' : u.B = some ⟨g, 0, none⟩ := hg
          have hgo : g < w2.heap.size := hBlt.out _ hg'
          have X : ∀ w, (Instr.indexAt 23 (.slice u.B u.m u.d) (.int .i64 (k : Int))).run Try.prog w = .ok (.pointer (some ⟨g, k * 3, none⟩)) w := fun w => by
            have := ix23 (c := u.d) hg' hlt w
            rwa [show (⟨g, 0, none⟩ : Addr).add (k * 3) = ⟨g, k * 3, none⟩ by unfold Addr.add; split <;> simp_all] at this
          have HSET := Lib.hid (mixE_set (h := mirE v.f.W) he)
          have heE := ok.out.edge e (by rw [← HU.out]; exact List.mem_of_getElem? he)
          have HG := Lib.hid hg'
          have HNE := Lib.hid (show w2.heap.size ≠ (⟨g, k * 3, none⟩ : Addr).block from by show w2.heap.size ≠ g; omega)
          have HEB := Lib.hid (isE_bd heE)
          obtain ⟨x, y', up⟩ := e
          have heb := HEB.out
          dsimp only at heb
          obtain ⟨x0, x1, up01⟩ := heb
          have HMX := Lib.hid (mixE_get (h := mirE v.f.W) he)
          have co := bo.at
          have c3 := b3.at
          have z0' := z0 (k * 3)
          have cA := fun o => ((bo.alloc o).at)
          have c3A := fun o => ((b3.alloc o).at)
          have HGW := Lib.hid hgw
          have HGL := Lib.hid hgl
          clear hok hbk hg hg' he z0 hgl heE hkd hgo
          rcases up01 with rfl | rfl
          · go_wp2_with fail
            have HZV := Lib.hid (show v.f.W - 2 - x = (mirE v.f.W (x, y', 0)).1 by show _ = v.f.W - 2 + 0 - x; omega)
            rw [HZV.out]
            have HO5 := Lib.hid ((HOk.out.storeP HG.out HMX.out (mirE v.f.W (x, y', 0)).1).on (belowA _ (Obj.cells #[.int .i64 x, .int .i64 y', .int .i64 0] 33)))
            have HB5 := Lib.hid (below_trans' (HBk.out.setCell (p := ⟨g, k * 3, none⟩) HGL.out (.int .i64 (mirE v.f.W (x, y', 0)).1)) (belowA _ (Obj.cells #[.int .i64 x, .int .i64 y', .int .i64 0] 33)))
            have b5 := (bo.far (p := ⟨g, k * 3, none⟩) HNE.out (.int .i64 (mirE v.f.W (x, y', 0)).1)).alloc (Obj.cells #[.int .i64 x, .int .i64 y', .int .i64 0] 33)
            clear co c3 cA c3A d0 d1 d2 bo b3 X HZV
            go_roundw
            case rel => exact ⟨k + 1, by omega, by go_num, b5, by rw [← HSET.out]; exact HO5.out, HB5.out⟩
            case measure => simp [intOf]; omega
          · go_wp2_with fail
            have HZV := Lib.hid (show v.f.W - 1 - x = (mirE v.f.W (x, y', 1)).1 by show _ = v.f.W - 2 + 1 - x; omega)
            rw [HZV.out]
            have HO5 := Lib.hid ((HOk.out.storeP HG.out HMX.out (mirE v.f.W (x, y', 1)).1).on (belowA _ (Obj.cells #[.int .i64 x, .int .i64 y', .int .i64 1] 33)))
            have HB5 := Lib.hid (below_trans' (HBk.out.setCell (p := ⟨g, k * 3, none⟩) HGL.out (.int .i64 (mirE v.f.W (x, y', 1)).1)) (belowA _ (Obj.cells #[.int .i64 x, .int .i64 y', .int .i64 1] 33)))
            have b5 := (bo.far (p := ⟨g, k * 3, none⟩) HNE.out (.int .i64 (mirE v.f.W (x, y', 1)).1)).alloc (Obj.cells #[.int .i64 x, .int .i64 y', .int .i64 1] 33)
            clear co c3 cA c3A d0 d1 d2 bo b3 X HZV
            go_roundw
            case rel => exact ⟨k + 1, by omega, by go_num, b5, by rw [← HSET.out]; exact HO5.out, HB5.out⟩
            case measure => simp [intOf]; omega
        · have hres : Calls Try.prog 84 #[u.val] wr (RetOwn (fin (mirF v.f)) (valid (mirF v.f)) w1) := by
            have h := result_any ((u.withD (mirF v.f).ds).withP (mixE (mirE v.f.W) k u.f.ps)) w1 wr HBk.out HOk.out (by show u.m ≤ _; omega)
            have e : srt ((u.withD (mirF v.f).ds).withP (mixE (mirE v.f.W) k u.f.ps)).f = mirF v.f := by
              show srt (withP (withD u.f _) _) = _
              rw [mixE_all (by have := HUM.out; omega), HU.out]; rfl
            rw [e] at h
            exact h
          have HRES := Lib.hid hres
          have co := bo.at
          clear hok hbk hres
          go_wp2_with fail
          with_reducible refine HRES.out.mono ?_
          rintro r w5 ⟨u', hu', rfl, ho5, hb5⟩
          have HU' := Lib.hid hu'
          have HO5 := Lib.hid ho5
          have HR5 := Lib.hid (HRR.out.on hb5)
          have hlt1 := Lib.hid HRR.out.box.1
          have cr := HR5.out.box.at
          have fr := HR5.out.fz
          clear hu' ho5 hb5 co bo
          dsimp only [FV.val]
          go_wp2_with fail
          have cF := (HR5.out.box.four (.int .i64 u'.f.W) (.int .i64 u'.f.H) (.slice u'.A u'.n u'.c) (.slice u'.B u'.m u'.d)).at
          have HE := res_own HO5.out hlt1.out HR5.out.bel HR5.out.le hw1.out.size (.int .i64 u'.f.W) (.int .i64 u'.f.H) (.slice u'.A u'.n u'.c) (.slice u'.B u'.m u'.d)
          exact bodyPost_ret (v := .tuple #[.agg #[.int .i64 u'.f.W, .int .i64 u'.f.H, .slice u'.A u'.n u'.c, .slice u'.B u'.m u'.d], .int .i64 (valid (mirF v.f))]) (by simp [results, Try.results49, go_sem, cF]) rfl
            ⟨u', by rw [HU'.out, HS.out], by rw [HS.out], HE.1, HE.2⟩
end Go.Proofs.Ytahmdnboeenfkaa

namespace Go.Proofs.Ytahmdnboeenfkaa
open Go.RowKit Go.Sort

def insE (e : Edg) : List Edg → List Edg
  | [] => [e]
  | x :: l => if ltE e x then e :: x :: l else x :: insE e l
def stpE (e : Edg) (s : Bool × List Edg) (x : Edg) : Bool × List Edg := if !s.1 && decide (ltE e x) then (true, s.2 ++ [e] ++ [x]) else (s.1, s.2 ++ [x])
def stE (e : Edg) (es : List Edg) (k : Nat) : Bool × List Edg := (es.take k).foldl (stpE e) (false, [])
def putE (es : List Edg) (e : Edg) : List Edg := insE e es
theorem stE_zero (e : Edg) (es : List Edg) : stE e es 0 = (false, []) := by simp [stE]
theorem stE_succ {e x : Edg} {es : List Edg} {k : Nat} (h : es[k]? = some x) : stE e es (k + 1) = stpE e (stE e es k) x := by
  unfold stE
  obtain ⟨hk, rfl⟩ := List.getElem?_eq_some_iff.1 h
  rw [List.take_succ_eq_append_getElem hk, List.foldl_append]; rfl
theorem foldl_true (e : Edg) (l o : List Edg) : l.foldl (stpE e) (true, o) = (true, o ++ l) := by
  induction l generalizing o with
  | nil => simp
  | cons x l ih => rw [List.foldl_cons]; show l.foldl _ (true, o ++ [x]) = _; rw [ih]; simp
theorem foldl_ins (e : Edg) (l o : List Edg) : (if (l.foldl (stpE e) (false, o)).1 then (l.foldl (stpE e) (false, o)).2 else (l.foldl (stpE e) (false, o)).2 ++ [e]) = o ++ insE e l := by
  induction l generalizing o with
  | nil => simp [insE]
  | cons x l ih =>
    rw [List.foldl_cons]
    by_cases h : ltE e x
    · have : stpE e (false, o) x = (true, o ++ [e] ++ [x]) := by simp [stpE, h]
      rw [this, foldl_true]; simp [insE, h]
    · have : stpE e (false, o) x = (false, o ++ [x]) := by simp [stpE, h]
      rw [this, ih]; simp [insE, h]
theorem stE_all {e : Edg} {es : List Edg} {k : Nat} (h : es.length ≤ k) : (if (stE e es k).1 then (stE e es k).2 else (stE e es k).2 ++ [e]) = putE es e := by
  unfold stE putE
  rw [List.take_of_length_le h]
  exact foldl_ins e es []
theorem stE_length (e : Edg) (es : List Edg) (k : Nat) : (stE e es k).2.length ≤ k + 1 := by
  have : ∀ (l : List Edg) (s : Bool × List Edg), (l.foldl (stpE e) s).2.length ≤ s.2.length + l.length + (if s.1 then 0 else 1) := by
    intro l
    induction l with
    | nil => intro s; simp
    | cons x l ih =>
      intro s
      rw [List.foldl_cons]
      refine Nat.le_trans (ih _) ?_
      obtain ⟨b, o⟩ := s
      unfold stpE
      cases b <;> by_cases h : ltE e x <;> simp [h] <;> omega
  have h := this (es.take k) (false, [])
  have h2 : (es.take k).length ≤ k := List.length_take_le _ _
  simp at h
  unfold stE
  omega
/-- An insertion into a sorted list leaves it sorted. -/
theorem insE_perm (e : Edg) (l : List Edg) : (insE e l).Perm (e :: l) := by
  induction l with
  | nil => exact List.Perm.refl _
  | cons x l ih =>
    unfold insE
    by_cases h : ltE e x
    · rw [if_pos h]
    · rw [if_neg h]; exact (ih.cons x).trans (List.Perm.swap _ _ _)
theorem leE_trans {a b c : Edg} (h1 : ¬ ltE b a) (h2 : ¬ ltE c b) : ¬ ltE c a := by
  unfold ltE at *; omega
theorem insE_sorted (e : Edg) (l : List Edg) (h : l.Pairwise fun x y => ¬ ltE y x) : (insE e l).Pairwise fun x y => ¬ ltE y x := by
  induction l with
  | nil => simp [insE]
  | cons x l ih =>
    rw [List.pairwise_cons] at h
    unfold insE
    by_cases h0 : ltE e x
    · rw [if_pos h0, List.pairwise_cons]
      have hx : ¬ ltE x e := ltE_asymm h0
      refine ⟨fun y hy => ?_, List.pairwise_cons.2 h⟩
      rcases List.mem_cons.1 hy with rfl | hy
      · exact hx
      · exact leE_trans hx (h.1 y hy)
    · rw [if_neg h0, List.pairwise_cons]
      refine ⟨fun y hy => ?_, ih h.2⟩
      rcases List.mem_cons.1 ((insE_perm e l).mem_iff.1 hy) with rfl | hy
      · exact h0
      · exact h.1 y hy
theorem sortE_unique {l m : List Edg} (hp : l.Perm m) (hl : l.Pairwise fun x y => ¬ ltE y x) : l = sortE m := by
  have h1 := sortE_of hl
  have h2 : (sortE l).Perm (sortE m) := (sortE_perm l).trans (hp.trans (sortE_perm m).symm)
  rw [← h1]
  refine h2.eq_of_pairwise (le := fun x y => ¬ ltE y x) ?_ (sortE_le l) (sortE_le m)
  intro a b _ _ hab hba
  obtain ⟨a1, a2, a3⟩ := a
  obtain ⟨b1, b2, b3⟩ := b
  unfold ltE at hab hba
  simp only [Prod.mk.injEq]
  dsimp only at hab hba
  omega
theorem foldl_put (l acc : List Edg) (h : acc.Pairwise fun x y => ¬ ltE y x) : (l.foldl putE acc).Perm (acc ++ l) ∧ (l.foldl putE acc).Pairwise fun x y => ¬ ltE y x := by
  induction l generalizing acc with
  | nil => exact ⟨by simp, h⟩
  | cons x l ih =>
    rw [List.foldl_cons]
    obtain ⟨h1, h2⟩ := ih (putE acc x) (insE_sorted x acc h)
    refine ⟨h1.trans ?_, h2⟩
    refine ((insE_perm x acc).append_right l).trans ?_
    rw [List.cons_append]
    exact List.perm_middle.symm
theorem foldl_sort (l : List Edg) : l.foldl putE [] = sortE l := by
  obtain ⟨h1, h2⟩ := foldl_put l [] List.Pairwise.nil
  exact sortE_unique (by simpa using h1) h2

set_option maxHeartbeats 1000000 in
set_option maxRecDepth 10000 in
theorem put_any (A : Option Addr) (n c : Nat) (es : List Edg) (e : Edg) (w : World) (hl : Reads w w.heap.size 3 A n (edgs es)) (hn : n ≤ 1000000) :
    Calls Try.prog 90 #[.slice A n c, eval_ e] w (RetRow 33 3 (putE es e).length (edgs (putE es e)) w) := by
  have hlen := hl.len
  rw [edgs_length] at hlen
  have l1 : n ≤ es.length := by omega
  have l2 : es.length ≤ n := by omega
  have HL := Lib.hid hl
  clear hl hlen
  go_enter Try.func90, Try.ntmps90
  dsimp only [eval_]
  go_wp2_with fail
  refine wp_gen (fun w1 => Box w1 w.heap.size #[.int .i64 e.1, .int .i64 e.2.1, .int .i64 e.2.2] ∧ Below w.heap.size w w1) ⟨Box.new _ _ _, belowA _ _⟩ ?_
  rintro w1 ⟨b1, hw1⟩
  have HL1 := Lib.hid (HL.out.on hw1)
  have HW1 := Lib.hid hw1
  clear hw1 HL
  go_loopw [5, 6, 7] (fun out dn i wr => ∃ k : Nat, k ≤ n ∧ i = .int .i64 k ∧ dn = .bool (stE e es k).1 ∧ Own w1 wr out (stE e es k).2) (fun _ _ i _ => n - (intOf i).toNat)
  case atStart => exact ⟨0, by omega, rfl, by rw [stE_zero], by rw [stE_zero]; exact Own.nil w1⟩
  case round =>
    obtain ⟨k, hk, rfl, rfl, hown0⟩ := hrel
    have HO := Lib.hid hown0
    have bx := b1.below hown0.bel
    by_cases hlt : k < n
    · obtain ⟨ad, z, e1, hbk, hz0, d0, d1, d2⟩ := psat HL1.out (k := k) (by omega)
      have hz := Lib.hid hz0
      have X := fun w => ix23 (c := c) e1 hlt w
      have hlen : (stE e es k).2.length < 100000000 := by have := stE_length e es k; omega
      have HST := Lib.hid (stE_succ (e := e) hz0)
      have CE := Lib.hid (fun w5 (hb : Below w1.heap.size w1 w5) => (show w5.cell? (ad.add (k * 3)) = some (.int .i64 z.1) ∧ w5.cell? ⟨(ad.add (k * 3)).block, (ad.add (k * 3)).off + 1, none⟩ = some (.int .i64 z.2.1) ∧ w5.cell? ⟨(ad.add (k * 3)).block, (ad.add (k * 3)).off + 2, none⟩ = some (.int .i64 z.2.2) from
        ⟨(hb.cell (p := ad.add (k * 3)) (by rw [blockAdd]; exact hbk)).trans d0, (hb.cell (p := ⟨(ad.add (k * 3)).block, (ad.add (k * 3)).off + 1, none⟩) (by show (ad.add (k * 3)).block < _; rw [blockAdd]; exact hbk)).trans d1, (hb.cell (p := ⟨(ad.add (k * 3)).block, (ad.add (k * 3)).off + 2, none⟩) (by show (ad.add (k * 3)).block < _; rw [blockAdd]; exact hbk)).trans d2⟩))
      obtain ⟨q0, q1, q2⟩ := CE.out _ hown0.bel
      clear hz0 hown0 e1 d0 d1 d2
      have HB := Lib.hid (fun w => before_any e z w)
      generalize hs : stE e es k = s at HO hlen HST
      obtain ⟨dn, o⟩ := s
      dsimp only at HO hlen
      have c0 := bx.rg
      have f0 := rg_cell q0
      have f1 := rg_cell q1
      have f2 := rg_cell q2
      clear hs q0 q1 q2
      have HCase : Hid (dn = false → (¬ ltE e z)) ∨ Hid (dn = false ∧ ltE e z) := by
        cases dn
        · by_cases h : ltE e z
          · exact .inr (Lib.hid ⟨rfl, h⟩)
          · exact .inl (Lib.hid fun _ => h)
        · exact .inl (Lib.hid fun h => by cases h)
      rcases HCase with HC | HC
      · have HS2 := Lib.hid (show stE e es (k + 1) = (dn, o ++ [z]) by
          rw [HST.out]
          unfold stpE
          rw [if_neg]
          cases dn
          · simpa using HC.out rfl
          · simp)
        have HDE := Lib.hid (fun (h : dn = false) => (show decide (ltE e z) = false by simpa using HC.out h))
        clear HST HC
        cases dn
        all_goals
          go_wp2_with fail
          refine wp_region_qb mixed (by kernel_rfl) ?_
          repeat (go_big_quiet_step (exact rg_call (fun w _ => HB.out w) _ _))
          refine wpQuiet_nil ?_
          intro w4 hb4
          first | rw [HDE.out rfl] | rw [HDE.out trivial] | skip
          clear c0 f0 f1 f2 HB
          have bx4 := bx.below hb4
          have c4 := bx4.at
          obtain ⟨q0, q1, q2⟩ := CE.out _ (below_trans' HO.out.bel hb4)
          have HO4 := Lib.hid (HO.out.on hb4)
          clear hb4 HO
          go_wp2_with (at_builtin; refine wpList_push rfl _ _ rfl w1 _ _ o z _ rfl (HO4.out.on (belowA _ _)) rfl (Box.new _ _ _) (by omega) ?_; intro v' w' hown'; have HO5 := Lib.hid hown'; clear hown')
          go_roundw
          case rel => exact ⟨k + 1, by omega, by go_num, by rw [HS2.out], by rw [HS2.out]; exact HO5.out⟩
          case measure => simp [intOf]; omega
      · obtain ⟨rfl, hlt0⟩ := HC.out
        have HS2 := Lib.hid (show stE e es (k + 1) = (true, o ++ [e] ++ [z]) by
          rw [HST.out]
          simp [stpE, hlt0])
        have HDE := Lib.hid (show decide (ltE e z) = true by simpa using hlt0)
        clear HST HC hlt0
        go_wp2_with fail
        refine wp_region_qb mixed (by kernel_rfl) ?_
        repeat (go_big_quiet_step (exact rg_call (fun w _ => HB.out w) _ _))
        refine wpQuiet_nil ?_
        intro w4 hb4
        rw [HDE.out]
        clear c0 f0 f1 f2 HB
        have bx4 := bx.below hb4
        have c4 := bx4.at
        have HO4 := Lib.hid (HO.out.on hb4)
        clear hb4 HO
        go_wp2_with (at_builtin; first | (refine wpList_push rfl _ _ rfl w1 _ _ o e _ rfl (HO4.out.on (belowA _ _)) rfl (Box.new _ _ _) (by omega) ?_; intro v' w' hown'; have HO5 := Lib.hid hown'; clear hown'; have q := CE.out _ HO5.out.bel; obtain ⟨q0, q1, q2⟩ := q; clear HO4) | (refine wpList_push rfl _ _ rfl w1 _ _ (o ++ [e]) z _ rfl (HO5.out.on (belowA _ _)) rfl (Box.new _ _ _) (by simp; omega) ?_; intro v' w' hown'; have HO6 := Lib.hid hown'; clear hown'))
        go_roundw
        case rel => exact ⟨k + 1, by omega, by go_num, by rw [HS2.out], by rw [HS2.out]; exact HO6.out⟩
        case measure => simp [intOf]; omega
    · have HF := Lib.hid (stE_all (e := e) (es := es) (k := k) (by omega))
      have hlen : (stE e es k).2.length < 100000000 := by have := stE_length e es k; omega
      clear hown0
      generalize hs : stE e es k = s at HO hlen HF
      obtain ⟨dn, o⟩ := s
      dsimp only at HO hlen
      have c0 := bx.at
      clear hs
      cases dn
      · have HP := Lib.hid (show o ++ [e] = putE es e by simpa using HF.out)
        clear HF
        go_wp2_with (at_builtin; refine wpList_push rfl _ _ rfl w1 _ _ o e _ rfl (HO.out.on (belowA _ _)) rfl (Box.new _ _ _) (by omega) ?_; intro v' w' hown'; have HO5 := Lib.hid hown'; clear hown')
        obtain ⟨A', c', rfl, _⟩ := HO5.out.form
        go_ret
        exact ⟨A', c', by rw [← HP.out]; rfl, by rw [← HP.out]; exact row_mono HO5.out.row HW1.out.size, below_trans' HW1.out HO5.out.bel⟩
      · have HP := Lib.hid (show o = putE es e by simpa using HF.out)
        clear HF
        go_wp2_with fail
        obtain ⟨A', c', rfl, _⟩ := HO.out.form
        go_ret
        exact ⟨A', c', by rw [← HP.out]; rfl, by rw [← HP.out]; exact row_mono HO.out.row HW1.out.size, below_trans' HW1.out HO.out.bel⟩
end Go.Proofs.Ytahmdnboeenfkaa

namespace Go.Proofs.Ytahmdnboeenfkaa
open Go.RowKit Go.Sort

structure GF (w1 : World) (a b : Nat) (w : World) (B : Nat) (v : FV) : Prop where
  box : Box w B #[.int .i64 v.f.W, .int .i64 v.f.H, .slice v.A v.n v.c, .slice v.B v.m v.d]
  fz : ∀ i, w.frozen? ⟨B, i, none⟩ = false
  ds : w.ownsRow a 3 1 (.slice v.A v.n v.c) v.n (ints v.f.ds)
  ps : w.ownsRow b 33 3 (.slice v.B v.m v.d) v.m (edgs v.f.ps)
  ne : ∀ p q, v.A = some p → v.B = some q → p.block ≠ q.block
  nA : ∀ p, v.A = some p → p.block ≠ B
  nB : ∀ p, v.B = some p → p.block ≠ B
  bel : Below w1.heap.size w1 w
  hB : w1.heap.size ≤ B
  ha : w1.heap.size ≤ a
  hb : w1.heap.size ≤ b
section
variable {w1 w w' : World} {a b B : Nat} {v : FV}
theorem GF.own (h : GF w1 a b w B v) : FOwn w1.heap.size w v := ⟨row_mono h.ds h.ha, row_mono h.ps h.hb, h.ne⟩
theorem GF.on (h : GF w1 a b w B v) (hb : Below w.heap.size w w') : GF w1 a b w' B v :=
  ⟨h.box.below hb, fz_below h.box.1 h.fz hb, row_on h.ds hb, row_on h.ps hb, h.ne, h.nA, h.nB, below_trans' h.bel hb, h.hB, h.ha, h.hb⟩
theorem own_blk {A : Option Addr} {n c k : Nat} (h : (Value.slice A n c).ownBlock = some k) : ∃ p, A = some p ∧ p.block = k := by
  cases A with
  | none => cases h
  | some p => injection h with h; exact ⟨p, rfl, h⟩
theorem GF.putA (h : GF w1 a b w B v) (h0 : v.B = none) (h1 : B < a) (h2 : a ≤ w.heap.size) {A' : Option Addr} {n' c' : Nat} {ds' : List Int}
    (hr : w'.ownsRow a 3 1 (.slice A' n' c') n' (ints ds')) (hg : w.grownBy w' (Value.slice v.A v.n v.c).ownBlock) :
    GF w1 a b (w'.setCell ⟨B, 2, none⟩ (.slice A' n' c')) B ⟨{ v.f with ds := ds' }, A', v.B, n', c', v.m, v.d⟩ := by
  have hrow : ∀ k, (Value.slice v.A v.n v.c).ownBlock = some k → a ≤ k := fun k hk => (h.ds.lt k hk).1
  have hblk : ∀ k, k < a → w'.heap[k]? = w.heap[k]? := fun k hk => hg.block k (Nat.lt_of_lt_of_le hk h2) (fun e => by have := hrow k e.symm; omega)
  have hBl : Below a w w' := ⟨hg.os, hg.tape, hg.output, hg.size, hblk⟩
  have hb' : Box w' B #[.int .i64 v.f.W, .int .i64 v.f.H, .slice v.A v.n v.c, .slice v.B v.m v.d] := ⟨Nat.lt_of_lt_of_le h.box.1 hg.size, fun i => by rw [hBl.cell (p := ⟨B, i, none⟩) h1]; exact h.box.2 i⟩
  have hA' : ∀ p, A' = some p → p.block ≠ B := fun p hp => by have := (hr.lt p.block (by rw [hp]; rfl)).1; omega
  have hps : w'.ownsRow b 33 3 (.slice v.B v.m v.d) v.m (edgs v.f.ps) := by
    refine h.ps.kept hg ?_
    rw [h0]; exact .inl rfl
  refine ⟨?_, fun j => ?_, ?_, ?_, ?_, hA', h.nB, ?_, h.hB, h.ha, h.hb⟩
  · have := hb'.set (i := 2) (by simp) (.slice A' n' c'); simpa using this
  · rw [World.frozen?_setCell, hBl.frozen (p := ⟨B, j, none⟩) h1]; exact h.fz j
  · exact row_far hr (q := ⟨B, 2, none⟩) (fun k hk => by obtain ⟨p, hp, rfl⟩ := own_blk hk; exact hA' p hp) _
  · refine row_far hps (q := ⟨B, 2, none⟩) (fun k hk => ?_) _
    rw [h0] at hk; cases hk
  · intro p q _ hq; rw [show v.B = none from h0] at hq; cases hq
  · exact (h.bel.grown hg h.bel.size fun k hk => Nat.le_trans h.ha (hrow k hk)).setCell (p := ⟨B, 2, none⟩) h.hB _
theorem GF.belA (h : GF w1 a b w B v) (h2 : a ≤ w.heap.size) (hg : w.grownBy w' (Value.slice v.A v.n v.c).ownBlock) : Below a w w' :=
  ⟨hg.os, hg.tape, hg.output, hg.size, fun k hk => hg.block k (Nat.lt_of_lt_of_le hk h2) (fun e => by have := (h.ds.lt k e.symm).1; omega)⟩
theorem GF.belB (h : GF w1 a b w B v) (h2 : b ≤ w.heap.size) (hg : w.grownBy w' (Value.slice v.B v.m v.d).ownBlock) : Below b w w' :=
  ⟨hg.os, hg.tape, hg.output, hg.size, fun k hk => hg.block k (Nat.lt_of_lt_of_le hk h2) (fun e => by have := (h.ps.lt k e.symm).1; omega)⟩
theorem Box.under {b : Nat} {cs : Array Value} (h : Box w b cs) (hb : Below a w w') (hl : b < a) : Box w' b cs := ⟨Nat.lt_of_lt_of_le h.1 hb.size, fun i => by rw [hb.cell (p := ⟨b, i, none⟩) hl]; exact h.2 i⟩
theorem GF.putN (h : GF w1 a b w B v) (h2 : b ≤ w.heap.size) {B' : Option Addr} {m' d' : Nat} {ps' : List Edg}
    (hr : w'.ownsRow w.heap.size 33 3 (.slice B' m' d') m' (edgs ps')) (hg : Below w.heap.size w w') :
    GF w1 a b (w'.setCell ⟨B, 3, none⟩ (.slice B' m' d')) B ⟨{ v.f with ps := ps' }, v.A, B', v.n, v.c, m', d'⟩ := by
  have h' := h.on hg
  have hB' : ∀ p, B' = some p → w.heap.size ≤ p.block := fun p hp => (hr.lt p.block (by rw [hp]; rfl)).1
  have hA : ∀ p, v.A = some p → p.block < w.heap.size := fun p hp => (h.ds.lt p.block (by rw [hp]; rfl)).2
  have hBw := h.box.1
  have hB2 : ∀ p, B' = some p → p.block ≠ B := fun p hp => by have := hB' p hp; omega
  refine ⟨?_, fun j => ?_, ?_, ?_, ?_, h.nA, hB2, ?_, h.hB, h.ha, h.hb⟩
  · have := h'.box.set (i := 3) (by simp) (.slice B' m' d'); simpa using this
  · rw [World.frozen?_setCell]; exact h'.fz j
  · exact row_far h'.ds (q := ⟨B, 3, none⟩) (fun k hk => by obtain ⟨p, hp, rfl⟩ := own_blk hk; exact h.nA p hp) _
  · exact row_mono (row_far hr (q := ⟨B, 3, none⟩) (fun k hk => by obtain ⟨p, hp, rfl⟩ := own_blk hk; exact hB2 p hp) _) h2
  · intro p q hp hq; have := hA p hp; have := hB' q hq; omega
  · exact h'.bel.setCell (p := ⟨B, 3, none⟩) h.hB _
theorem GF.putB (h : GF w1 a b w B v) (h0 : ∀ p, v.A = some p → p.block < b) (h1 : B < b) (h2 : b ≤ w.heap.size) {B' : Option Addr} {m' d' : Nat} {ps' : List Edg}
    (hr : w'.ownsRow b 33 3 (.slice B' m' d') m' (edgs ps')) (hg : w.grownBy w' (Value.slice v.B v.m v.d).ownBlock) :
    GF w1 a b (w'.setCell ⟨B, 3, none⟩ (.slice B' m' d')) B ⟨{ v.f with ps := ps' }, v.A, B', v.n, v.c, m', d'⟩ := by
  have hrow : ∀ k, (Value.slice v.B v.m v.d).ownBlock = some k → b ≤ k := fun k hk => (h.ps.lt k hk).1
  have hblk : ∀ k, k < b → w'.heap[k]? = w.heap[k]? := fun k hk => hg.block k (Nat.lt_of_lt_of_le hk h2) (fun e => by have := hrow k e.symm; omega)
  have hBl : Below b w w' := ⟨hg.os, hg.tape, hg.output, hg.size, hblk⟩
  have hb' : Box w' B #[.int .i64 v.f.W, .int .i64 v.f.H, .slice v.A v.n v.c, .slice v.B v.m v.d] := ⟨Nat.lt_of_lt_of_le h.box.1 hg.size, fun i => by rw [hBl.cell (p := ⟨B, i, none⟩) h1]; exact h.box.2 i⟩
  have hB' : ∀ p, B' = some p → b ≤ p.block := fun p hp => (hr.lt p.block (by rw [hp]; rfl)).1
  have hB2 : ∀ p, B' = some p → p.block ≠ B := fun p hp => by have := hB' p hp; omega
  have hds : w'.ownsRow a 3 1 (.slice v.A v.n v.c) v.n (ints v.f.ds) := by
    refine h.ds.kept hg ?_
    cases hA : v.A with
    | none => exact .inl rfl
    | some p =>
      refine .inr fun e => ?_
      have h3 := hrow p.block (by rw [← e]; rfl)
      have h4 := h0 p hA
      omega
  refine ⟨?_, fun j => ?_, ?_, ?_, ?_, h.nA, hB2, ?_, h.hB, h.ha, h.hb⟩
  · have := hb'.set (i := 3) (by simp) (.slice B' m' d'); simpa using this
  · rw [World.frozen?_setCell, hBl.frozen (p := ⟨B, j, none⟩) h1]; exact h.fz j
  · exact row_far hds (q := ⟨B, 3, none⟩) (fun k hk => by obtain ⟨p, hp, rfl⟩ := own_blk hk; exact h.nA p hp) _
  · exact row_far hr (q := ⟨B, 3, none⟩) (fun k hk => by obtain ⟨p, hp, rfl⟩ := own_blk hk; exact hB2 p hp) _
  · intro p q hp hq; have := h0 p hp; have := hB' q hq; omega
  · exact (h.bel.grown hg h.bel.size fun k hk => Nat.le_trans h.hb (hrow k hk)).setCell (p := ⟨B, 3, none⟩) h.hB _
/-- A box that was made just now, for a field of nothing. -/
theorem GF.new (w1 w : World) (hb : Below w1.heap.size w1 w) (W H : Int) (t : TypeId) {a b : Nat} (ha : w1.heap.size ≤ a) (hb' : w1.heap.size ≤ b) :
    GF w1 a b (w.alloc (.cells #[.int .i64 W, .int .i64 H, .slice none 0 0, .slice none 0 0] t)) w.heap.size ⟨⟨W, H, [], []⟩, none, none, 0, 0, 0, 0⟩ :=
  ⟨Box.new _ _ _, fz_new _ _ _, World.ownsRow_nil _ _ _ _, World.ownsRow_nil _ _ _ _, fun _ _ h => (by cases h), fun _ h => (by cases h), fun _ h => (by cases h), below_trans' hb (belowA _ _), hb.size, ha, hb'⟩
end

set_option maxRecDepth 4000 in
/-- One operation of a region that draws: append of one int, which lies in a box of its own. -/
theorem step_pushI {ops : Array Oper} {o : Oper} {a : Act} {K : Act → World → Prop} {Q : Exit → Act → World → Prop} {E : Prop} (hgd : o.guard = none) (s x : Operand)
    (ho : o.op = .call { callee := .builtin .append, args := #[s, x], argTypes := #[22, 22] })
    (bl : Nat) (w : World) (out : Value) (n : Nat) (zs : List Int) (z : Int) (b : Nat) (hs : a.eval s = out) (hown : w.ownsRow bl 3 1 out n (ints zs)) (hbl : bl ≤ w.heap.size) (hx : a.eval x = .slice (some ⟨b, 0, none⟩) 1 1)
    (hbox : Box w b #[.int .i64 z]) (hlen : n < 1000000000)
    (h : ∀ A' c' w', w'.ownsRow bl 3 1 (.slice A' (n + 1) c') (n + 1) (ints (zs ++ [z])) → w.grownBy w' out.ownBlock → K (a.put o.dst (.slice A' (n + 1) c')) w') :
    if Region.wanted o (yielded ops a.tmps) = true then Oper.wp Try.prog o a w K Q else E := by
  have hw : Region.wanted o (yielded ops a.tmps) = true := by simp [Region.wanted, hgd]
  rw [if_pos hw]
  obtain ⟨i0, hi, hz0, hz1, hz2⟩ := info_parts info3
  refine wp_append_own w s x 22 ho bl 3 i0 _ 1 8 Try.underlying22 hi hz0 hz1 hz2 rfl (by decide) out n (ints zs) hs hown
    ⟨b, 0, none⟩ 1 1 [.int .i64 z] hx rfl ?_ ?_ ?_ ?_ hbl ?_
  · intro j u hj
    have e1 : (⟨b, 0, none⟩ : Addr).add j = ⟨b, j, none⟩ := by
      unfold Addr.add
      split
      · rename_i h0; rw [h0]
      · simp
    rw [e1, hbox.at]
    simpa using hj
  · exact ints_one [z]
  · unfold maxLen; omega
  · omega
  · intro v' w' h1 h2 _
    obtain ⟨A', c', rfl⟩ := row_form h1
    exact h A' c' w' (by rw [ints_append]; exact h1) h2
theorem wpList_pushGI {ops : Array Oper} {rest : List Oper} {o : Oper} {a : Act} {Q : Exit → Act → World → Prop} (hgd : o.guard = none) (s x : Operand)
    (ho : o.op = .call { callee := .builtin .append, args := #[s, x], argTypes := #[22, 22] })
    (bl : Nat) (w : World) (out : Value) (n : Nat) (zs : List Int) (z : Int) (b : Nat) (hs : a.eval s = out) (hown : w.ownsRow bl 3 1 out n (ints zs)) (hbl : bl ≤ w.heap.size) (hx : a.eval x = .slice (some ⟨b, 0, none⟩) 1 1)
    (hbox : Box w b #[.int .i64 z]) (hlen : n < 1000000000)
    (h : ∀ A' c' w', w'.ownsRow bl 3 1 (.slice A' (n + 1) c') (n + 1) (ints (zs ++ [z])) → w.grownBy w' out.ownBlock → wpList Try.prog ops Q rest (a.put o.dst (.slice A' (n + 1) c')) w') :
    wpList Try.prog ops Q (o :: rest) a w := by
  obtain ⟨i0, hi, hz0, hz1, hz2⟩ := info_parts info3
  refine wpList_append_own w hgd s x 22 ho bl 3 i0 _ 1 8 Try.underlying22 hi hz0 hz1 hz2 rfl (by decide) out n (ints zs) hs hown
    ⟨b, 0, none⟩ 1 1 [.int .i64 z] hx rfl ?_ (ints_one [z]) (by unfold maxLen; omega) (by omega) hbl ?_
  · intro j u hj
    have e1 : (⟨b, 0, none⟩ : Addr).add j = ⟨b, j, none⟩ := by
      unfold Addr.add
      split
      · rename_i h0; rw [h0]
      · simp
    rw [e1, hbox.at]
    simpa using hj
  · intro v' w' h1 h2 _
    obtain ⟨A', c', rfl⟩ := row_form h1
    exact h A' c' w' (by rw [ints_append]; exact h1) h2
theorem wpList_pushGE {ops : Array Oper} {rest : List Oper} {o : Oper} {a : Act} {Q : Exit → Act → World → Prop} (hgd : o.guard = none) (s x : Operand)
    (ho : o.op = .call { callee := .builtin .append, args := #[s, x], argTypes := #[23, 23] })
    (bl : Nat) (w : World) (out : Value) (n : Nat) (es : List Edg) (e : Edg) (b : Nat) (hs : a.eval s = out) (hown : w.ownsRow bl 33 3 out n (edgs es)) (hbl : bl ≤ w.heap.size) (hx : a.eval x = .slice (some ⟨b, 0, none⟩) 1 1)
    (hbox : Box w b #[.int .i64 e.1, .int .i64 e.2.1, .int .i64 e.2.2]) (hlen : n < 1000000000)
    (h : ∀ A' c' w', w'.ownsRow bl 33 3 (.slice A' (n + 1) c') (n + 1) (edgs (es ++ [e])) → w.grownBy w' out.ownBlock → wpList Try.prog ops Q rest (a.put o.dst (.slice A' (n + 1) c')) w') :
    wpList Try.prog ops Q (o :: rest) a w := by
  obtain ⟨i0, hi, hz0, hz1, hz2⟩ := info_parts info33
  refine wpList_append_own w hgd s x 23 ho bl 33 i0 _ 3 24 Try.underlying23 hi hz0 hz1 hz2 rfl (by decide) out n (edgs es) hs hown
    ⟨b, 0, none⟩ 1 1 (ecells e) hx rfl ?_ (edgs_one [e]) (by unfold maxLen; omega) (by omega) hbl ?_
  · intro j u hj
    have e1 : (⟨b, 0, none⟩ : Addr).add j = ⟨b, j, none⟩ := by
      unfold Addr.add
      split
      · rename_i h0; rw [h0]
      · simp
    rw [e1, hbox.at]
    simpa [ecells] using hj
  · intro v' w' h1 h2 _
    obtain ⟨A', c', rfl⟩ := row_form h1
    exact h A' c' w' (by rw [edgs_append]; exact h1) h2
end Go.Proofs.Ytahmdnboeenfkaa

namespace Go.Proofs.Ytahmdnboeenfkaa
open Go.RowKit Go.Sort

section
variable {P : Program} {ops : Array Oper} {md : Region.Mode} {Q : Exit → Act → World → Prop} {S : World → Prop}
def canonH (P : Program) (ops : Array Oper) (S : World → Prop) (L : Act → Prop) : List Nat → Act → Prop
  | [], a => L a
  | i :: hs, a => ∃ o v, ops[i]? = some o ∧ YieldsIf P ops S o v a ∧ canonH P ops S L hs (a.put o.dst v)
theorem canonH_some {L : Act → Prop} : ∀ (hs : List Nat) (a : Act), canonH P ops S L hs a → ∃ a', L a'
  | [], a, h => ⟨a, h⟩
  | _ :: hs, _, ⟨_, _, _, _, h⟩ => canonH_some hs _ h
theorem canonH_mono {L L' : Act → Prop} (hl : ∀ a, L a → L' a) : ∀ (hs : List Nat) (a : Act), canonH P ops S L hs a → canonH P ops S L' hs a
  | [], a, h => hl a h
  | _ :: hs, _, ⟨o, v, ho, hy, h⟩ => ⟨o, v, ho, hy, canonH_mono hl hs _ h⟩
theorem canonH_move {L : Act → Prop} {j : Nat} {oj : Oper} {q : List Nat} (hsel : ∀ (j : Nat) (o : Oper) cs b, ops[j]? = some o → o.op ≠ .select cs b) (hj : ops[j]? = some oj) :
    ∀ (p : List Nat) (a : Act), (∀ h ∈ p, ∀ oh, ops[h]? = some oh → oh.apart ops oj = true) → canonH P ops S L (p ++ j :: q) a → ∃ v, YieldsIf P ops S oj v a ∧ canonH P ops S L (p ++ q) (a.put oj.dst v)
  | [], a, _, ⟨o, v, ho, hy, hc⟩ => by
    obtain rfl : o = oj := Option.some.inj (ho.symm.trans hj)
    exact ⟨v, hy, hc⟩
  | h :: p, a, hap, ⟨o, u, ho, hy, hc⟩ => by
    obtain ⟨v, hyj, hcj⟩ := canonH_move hsel hj p (a.put o.dst u) (fun k hk => hap k (List.mem_cons_of_mem _ hk)) hc
    obtain ⟨h1, h2, h3⟩ := Oper.apart_spec (hap h List.mem_cons_self o ho)
    refine ⟨v, hyj.of_same (execOp_put oj (fun cs b => hsel j oj cs b hj) a o.dst u h1).symm (wanted_put oj a o.dst u h1).symm, o, u, ho, hy.of_same (execOp_put o (fun cs b => hsel h o cs b ho) a oj.dst v h3) (wanted_put o a oj.dst v h3), ?_⟩
    rw [← Act.put_comm a u v h2]
    exact hcj
theorem canonH_push {t : Nat} {ot : Oper} (hsel : ∀ (j : Nat) (o : Oper) cs b, ops[j]? = some o → o.op ≠ .select cs b) (ht : ops[t]? = some ot)
    (hQ : ∀ c (a : Act) d v w, Q (.panic c) (a.put d v) w → Q (.panic c) a w) {K : Act → World → Prop} {w : World} :
    ∀ (hs : List Nat) (a : Act), (∀ h ∈ hs, ∀ oh, ops[h]? = some oh → oh.apart ops ot = true) → canonH P ops S (fun a' => wpOp P ops Q t K a' w) hs a → wpOp P ops Q t (fun a' w' => canonH P ops S (fun a'' => K a'' w') hs a') a w
  | [], a, _, h => h
  | h :: hs, a, hap, ⟨o, v, ho, hy, hc⟩ => by
    have := canonH_push hsel ht hQ hs (a.put o.dst v) (fun k hk => hap k (List.mem_cons_of_mem _ hk)) hc
    exact wpOp_mono (fun a' w' ⟨hy', hk⟩ => ⟨o, v, ho, hy', hk⟩) (wpOp_putIf ht (hap h List.mem_cons_self o ho) (fun cs b => hsel h o cs b ho) (fun cs b => hsel t ot cs b ht) (fun c a w => hQ c a _ _ w) hy this)

def tailW (P : Program) (ops : Array Oper) (Q : Exit → Act → World → Prop) (S : World → Prop) : List Nat → Act → World → Prop
  | [], a, w => Q .normal a w
  | [t], a, w => wpOp P ops Q t (fun a' w' => Q .normal a' w') a w
  | t :: t' :: ts, a, w => wpOp P ops Q t (fun a' w' => S w' ∧ tailW P ops Q S (t' :: ts) a' w') a w

def chainT (md : Region.Mode) (ops : Array Oper) : List Nat → Bool
  | t :: t' :: ts => Region.waitsFor md ops t' t && chainT md ops (t' :: ts)
  | _ => true
def downB (md : Region.Mode) (ops : Array Oper) : Bool := (List.range ops.size).all fun i => ((ops[i]?).map (·.after.all fun e => !Region.binds md e || decide (e.on < i))).getD true
def ap1 (md : Region.Mode) (ops : Array Oper) (h j : Nat) : Bool := Region.waitsFor md ops j h || (match ops[h]?, ops[j]? with | some oh, some oj => oh.apart ops oj | _, _ => true)
def pairB (md : Region.Mode) (ops : Array Oper) : List Nat → Bool
  | [] => true
  | h :: hs => hs.all (ap1 md ops h) && pairB md ops hs
def crossB (md : Region.Mode) (ops : Array Oper) (hs ts : List Nat) : Bool := hs.all fun h => ts.all (ap1 md ops h)
theorem pairB_spec : ∀ (hs : List Nat), pairB md ops hs = true → hs.Pairwise fun h j => ap1 md ops h j = true
  | [], _ => List.Pairwise.nil
  | h :: hs, hh => by
    simp only [pairB, Bool.and_eq_true, List.all_eq_true] at hh
    exact List.pairwise_cons.2 ⟨hh.1, pairB_spec hs hh.2⟩
def htB (md : Region.Mode) (ops : Array Oper) (hs ts : List Nat) : Bool :=
  Region.noSelect ops && Region.sinkB md ops (ops.size - 1) && Region.chainB md ops (ops.size - 1) && decide (0 < ops.size) && downB md ops && pairB md ops hs && crossB md ops hs ts && chainT md ops ts &&
  decide ((hs ++ ts).Nodup) && (hs ++ ts).all (fun i => decide (i < ops.size)) && (List.range ops.size).all (fun i => (hs ++ ts).contains i) && decide (ts.getLast? = some (ops.size - 1)) && decide (ops.size = hs.length + ts.length)

/-- What of the region is still to come. -/
structure Rem (md : Region.Mode) (ops : Array Oper) (hs ts : List Nat) (listed : Array Bool) : Prop where
  inv : HeadInv md ops (ops.size - 1) listed
  mem : ∀ i, listed.getD i true = false ↔ i ∈ hs ++ ts
  nd : (hs ++ ts).Nodup
  lt : ∀ i ∈ hs ++ ts, i < ops.size
  chain : chainT md ops ts = true
  last : ts.getLast? = some (ops.size - 1)
  ap : hs.Pairwise fun h j => ap1 md ops h j = true
  cr : ∀ h ∈ hs, ∀ t ∈ ts, ap1 md ops h t = true
theorem ap1_spec {i j : Nat} {oi oj : Oper} (h : ap1 md ops i j = true) (h1 : ops[i]? = some oi) (h2 : ops[j]? = some oj) (hw : Region.waitsFor md ops j i = false) : oi.apart ops oj = true := by
  unfold ap1 at h
  rw [h1, h2, hw] at h
  simpa using h
/-- Who is ready waits for nobody that is still to come. -/
theorem ready_waits {listed : Array Bool} {i j : Nat} (hj : j ∈ Region.ready md ops listed) (hi : listed.getD i true = false) : Region.waitsFor md ops j i = false := by
  cases hc : Region.waitsFor md ops j i with
  | false => rfl
  | true =>
  exfalso
  obtain ⟨oj, hoj, e, he, hb, rfl⟩ := Region.waitsFor_spec hc
  obtain ⟨_, o, ho, hall⟩ := mem_ready.1 hj
  obtain rfl : oj = o := Option.some.inj (hoj.symm.trans ho)
  have := hall e he hb
  rw [getD_both hi] at this
  cases this
theorem getD_set_self {listed : Array Bool} {j : Nat} (hj : j < listed.size) : (listed.setIfInBounds j true).getD j true = true := by simp [hj]
theorem least_of {p : Nat → Bool} : ∀ n, p n = false → ∃ m, p m = false ∧ ∀ k, k < m → p k = true := by
  intro n
  induction n using Nat.strongRecOn with
  | _ n ih =>
    intro h
    rcases Classical.em (∃ k, k < n ∧ p k = false) with ⟨k, hk, hp⟩ | hno
    · exact ih k hk hp
    · exact ⟨n, h, fun k hk => by cases hp : p k with | true => rfl | false => exact absurd ⟨k, hk, hp⟩ hno⟩
theorem wpAny_ht (hsel : Region.noSelect ops = true) (hsk : Region.sinkB md ops (ops.size - 1) = true) (hck : Region.chainB md ops (ops.size - 1) = true) (h0 : 0 < ops.size) (hdn : downB md ops = true)
    (hQ : ∀ c (a : Act) d v w, Q (.panic c) (a.put d v) w → Q (.panic c) a w) :
    ∀ (f : Nat) (hs ts : List Nat) (listed : Array Bool) (a : Act) (w : World), f + 1 = hs.length + ts.length → Rem md ops hs ts listed → S w → canonH P ops S (fun a' => tailW P ops Q S ts a' w) hs a → wpAny P md ops Q (f + 1) listed a w
  | f, hs, ts, listed, a, w, hf, R, hS, hc => by
    have hselS := Region.noSelect_spec hsel
    refine ⟨fun hr => ?_, fun j hj => ?_⟩
    · exfalso
      -- the least of what is to come is ready
      have hlast : ops.size - 1 ∈ hs ++ ts := List.mem_append.2 (.inr (List.mem_of_getLast? R.last))
      obtain ⟨m, hmin, hless⟩ := least_of (p := fun i => listed.getD i true) _ ((R.mem _).2 hlast)
      have hlt := R.lt _ ((R.mem _).1 hmin)
      have : m ∈ Region.ready md ops listed := by
        rw [mem_ready]
        refine ⟨hmin, ops[m], by simp [hlt], fun e he hb => ?_⟩
        unfold downB at hdn
        rw [List.all_eq_true] at hdn
        have h1 := hdn m (List.mem_range.2 hlt)
        rw [Array.getElem?_eq_getElem hlt] at h1
        simp only [Option.map_some, Option.getD_some, Array.all_eq_true_iff_forall_mem] at h1
        have h2 := h1 e he
        rw [hb] at h2
        have h3 : e.on < m := by simpa using h2
        have h4 : listed.getD e.on true = true := hless e.on h3
        have h5 : e.on < listed.size := by rw [R.inv.size]; omega
        simp [h5] at h4 ⊢
        exact h4
      rw [hr] at this
      cases this
    · obtain ⟨hun, oj, hoj, hall⟩ := mem_ready.1 hj
      have hjlt : j < ops.size := (Array.getElem?_eq_some_iff.1 hoj).1
      have hapj : ∀ h ∈ hs, ap1 md ops h j = true → ∀ oh, ops[h]? = some oh → oh.apart ops oj = true := fun h hh h1 oh hoh =>
        ap1_spec h1 hoh hoj (ready_waits hj ((R.mem h).2 (List.mem_append.2 (.inl hh))))
      have hmem' : ∀ i, (listed.setIfInBounds j true).getD i true = false ↔ i ≠ j ∧ i ∈ hs ++ ts := fun i => by
        by_cases hij : i = j
        · subst hij
          simp only [ne_eq, not_true_eq_false, false_and, iff_false]
          rw [getD_set_self (by rw [R.inv.size]; exact hjlt)]; simp
        · rw [getD_set_ne true (Ne.symm hij), R.mem]; simp [hij]
      rcases List.mem_append.1 ((R.mem j).1 hun) with hjh | hjt
      · obtain ⟨p, q, rfl⟩ := List.append_of_mem hjh
        have hnd := R.nd
        rw [List.append_assoc, List.cons_append, List.nodup_append] at hnd
        obtain ⟨n1, n2, n3⟩ := hnd
        rw [List.nodup_cons] at n2
        have apq := List.pairwise_append.1 R.ap
        have hjp : j ∉ p := fun h => n3 j h j List.mem_cons_self rfl
        obtain ⟨v, hy, hcv⟩ := canonH_move hselS hoj p a (fun h hh => hapj h (by simp [hh]) (apq.2.2 h hh j List.mem_cons_self)) hc
        have hjn : j < ops.size - 1 := by
          have h1 : ops.size - 1 ∈ ts := List.mem_of_getLast? R.last
          have : j ≠ ops.size - 1 := fun e => n2.1 (List.mem_append.2 (.inr (e ▸ h1)))
          omega
        refine hy.wpOp hoj hS ?_
        cases f with
        | zero =>
          exfalso
          have h1 : 0 < ts.length := by have := R.last; cases ts with | nil => cases this | cons => simp
          simp at hf
          omega
        | succ f =>
          refine wpAny_ht hsel hsk hck h0 hdn hQ f (p ++ q) ts _ _ w (by simp at hf ⊢; omega) ⟨R.inv.set hj hjn, fun i => ?_, ?_, fun i hi => R.lt i ?_, R.chain, R.last, List.pairwise_append.2 ⟨apq.1, (List.pairwise_cons.1 apq.2.1).2, fun x hx y hy => apq.2.2 x hx y (List.mem_cons_of_mem _ hy)⟩, fun h hh => R.cr h ?_⟩ hS hcv
          · rw [hmem']
            simp only [List.mem_append, List.mem_cons]
            refine ⟨fun ⟨h1, h2⟩ => ?_, fun h => ⟨fun e => ?_, ?_⟩⟩
            · rcases h2 with (h2 | h2 | h2) | h2
              · exact .inl (.inl h2)
              · exact absurd h2 h1
              · exact .inl (.inr h2)
              · exact .inr h2
            · subst e
              rcases h with (h | h) | h
              · exact hjp h
              · exact n2.1 (List.mem_append.2 (.inl h))
              · exact n2.1 (List.mem_append.2 (.inr h))
            · rcases h with (h | h) | h
              · exact .inl (.inl h)
              · exact .inl (.inr (.inr h))
              · exact .inr h
          · rw [List.append_assoc, List.nodup_append]
            exact ⟨n1, n2.2, fun x hx y hy => n3 x hx y (List.mem_cons_of_mem _ hy)⟩
          · simp only [List.mem_append, List.mem_cons] at hi ⊢
            rcases hi with (h | h) | h
            · exact .inl (.inl h)
            · exact .inl (.inr (.inr h))
            · exact .inr h
          · simp only [List.mem_append, List.mem_cons] at hh ⊢
            rcases hh with h | h
            · exact .inl h
            · exact .inr (.inr h)
      · -- an operation of the chain: it is the first one
        cases ts with
        | nil => cases hjt
        | cons t ts =>
          have hnd := R.nd
          rw [List.nodup_append] at hnd
          obtain ⟨n1, n2, n3⟩ := hnd
          have hjh : ∀ h ∈ hs, h ≠ j := fun h hh e => n3 h hh j hjt e
          have hjt' : j = t := by
            rcases Classical.em (j = t) with h | hne
            · exact h
            exfalso
            have hmem : j ∈ ts := by rcases List.mem_cons.1 hjt with h | h; exact absurd h hne; exact h
            have key : ∀ (l : List Nat) (t : Nat), chainT md ops (t :: l) = true → j ∈ l → ∃ k ∈ t :: l, Region.waitsFor md ops j k = true := by
              intro l
              induction l with
              | nil => intro t _ h; cases h
              | cons x l ih =>
                intro t hch h
                simp only [chainT, Bool.and_eq_true] at hch
                rcases List.mem_cons.1 h with rfl | h
                · exact ⟨t, List.mem_cons_self, hch.1⟩
                · obtain ⟨k, hk, hw⟩ := ih x hch.2 h
                  exact ⟨k, List.mem_cons_of_mem _ hk, hw⟩
            obtain ⟨k, hk, hw⟩ := key ts t R.chain hmem
            rw [ready_waits hj ((R.mem k).2 (List.mem_append.2 (.inr hk)))] at hw
            cases hw
          subst hjt'
          cases ts with
          | nil =>
            have hjl : j = ops.size - 1 := by have := R.last; simpa using this
            have hnil : hs = [] := by
              cases hs with
              | nil => rfl
              | cons h hs =>
                exfalso
                have h1 : h ∈ h :: hs := List.mem_cons_self
                have h2 := (R.mem h).2 (List.mem_append.2 (.inl h1))
                have h3 : h < ops.size - 1 := by
                  have := R.lt h (List.mem_append.2 (.inl h1))
                  have := hjh h h1
                  omega
                exact tail_waits hsk hck (by omega) R.inv _ h rfl h3 h2 j (by omega) hj
            subst hnil
            obtain rfl : f = 0 := by simpa using hf
            refine wpOp_mono (fun a' w' hq => ⟨?_, hq⟩) hc
            refine List.eq_nil_iff_forall_not_mem.2 fun i hi => ?_
            have := (hmem' i).1 (mem_ready.1 hi).1
            simp at this
          | cons t' ts =>
            have hjn : j < ops.size - 1 := by
              have h1 : ops.size - 1 ∈ t' :: ts := List.mem_of_getLast? (by have := R.last; simpa [List.getLast?_cons_cons] using this)
              have : j ≠ ops.size - 1 := fun e => (List.nodup_cons.1 n2).1 (e ▸ h1)
              omega
            have h1 := canonH_push (K := fun a' w' => S w' ∧ tailW P ops Q S (t' :: ts) a' w') hselS hoj hQ hs a (fun h hh => hapj h hh (R.cr h hh j List.mem_cons_self)) hc
            cases f with
            | zero => exfalso; simp at hf; omega
            | succ f =>
              refine wpOp_mono (fun a' w' hk => ?_) h1
              obtain ⟨_, hS', _⟩ := canonH_some hs a' hk
              refine wpAny_ht hsel hsk hck h0 hdn hQ f hs (t' :: ts) _ a' w' (by simp at hf ⊢; omega) ⟨R.inv.set hj hjn, fun i => ?_, ?_, fun i hi => R.lt i ?_, ?_, ?_, R.ap, fun h hh t ht => R.cr h hh t (List.mem_cons_of_mem _ ht)⟩ hS' (canonH_mono (fun _ h => h.2) hs a' hk)
              · rw [hmem']
                simp only [List.mem_append, List.mem_cons]
                refine ⟨fun ⟨h1, h2⟩ => ?_, fun h => ⟨fun e => ?_, ?_⟩⟩
                · rcases h2 with h2 | h2 | h2
                  · exact .inl h2
                  · exact absurd h2 h1
                  · exact .inr h2
                · subst e
                  rcases h with h | h
                  · exact hjh _ h rfl
                  · exact (List.nodup_cons.1 n2).1 (List.mem_cons.2 h)
                · rcases h with h | h
                  · exact .inl h
                  · exact .inr (.inr h)
              · rw [List.nodup_append]
                exact ⟨n1, (List.nodup_cons.1 n2).2, fun x hx y hy => n3 x hx y (List.mem_cons_of_mem _ hy)⟩
              · simp only [List.mem_append, List.mem_cons] at hi ⊢
                rcases hi with h | h
                · exact .inl h
                · exact .inr (.inr h)
              · have := R.chain; simp only [chainT, Bool.and_eq_true] at this; exact this.2
              · have := R.last; simpa [List.getLast?_cons_cons] using this
/-- The law. -/
theorem wp_region_ht {id : Nat} {a : Act} {w : World} {l : List Oper} (hs ts : List Nat) (S : World → Prop) (hm : P.follows .mixedOrders = true) (hB : htB .any l.toArray hs ts = true)
    (hS : S w.drew) (h : canonH P l.toArray S (fun a' => tailW P l.toArray (NoPanic Q) S ts a' w.drew) hs a) : (Code.region id l.toArray true).wp P Q a w := by
  simp only [htB, Bool.and_eq_true, decide_eq_true_eq] at hB
  obtain ⟨⟨⟨⟨⟨⟨⟨⟨⟨⟨⟨⟨b1, b2⟩, b3⟩, b4⟩, b5⟩, b6⟩, bc⟩, b7⟩, b8⟩, b9⟩, b10⟩, b11⟩, b12⟩ := hB
  refine wp_region_noPanic (wp_region_any hm ?_)
  rw [List.all_eq_true] at b9 b10
  have hlt : ∀ i ∈ hs ++ ts, i < l.toArray.size := fun i hi => by simpa using b9 i hi
  obtain ⟨f, hf⟩ : ∃ f, l.toArray.size = f + 1 := ⟨l.toArray.size - 1, by omega⟩
  have R : Rem .any l.toArray hs ts (Array.replicate l.toArray.size false) := by
    refine ⟨⟨by simp, fun j oj _ hl => (by rw [getD_replicate_false] at hl; cases hl), fun t _ ht => getD_in (by simpa using ht) (getD_replicate_false _ _)⟩, fun i => ⟨fun hi => ?_, fun hi => ?_⟩, b8, hlt, b7, b11, pairB_spec _ b6, fun h hh t ht => by unfold crossB at bc; rw [List.all_eq_true] at bc; have := bc h hh; rw [List.all_eq_true] at this; exact this t ht⟩
    · rcases Nat.lt_or_ge i l.toArray.size with h | h
      · simpa using b10 i (List.mem_range.2 h)
      · rw [show (Array.replicate l.toArray.size false).getD i true = true by simp [Nat.not_lt.2 (by simpa using h)]] at hi; cases hi
    · exact getD_in (by simpa using hlt i hi) (getD_replicate_false _ _)
  have := wpAny_ht (P := P) (Q := NoPanic Q) (S := S) b1 b2 b3 b4 b5 (fun _ _ _ _ _ h => h) f hs ts _ a w.drew (by omega) R hS h
  rw [← hf] at this
  exact this
theorem canonH_step {L : Act → Prop} {i : Nat} {o : Oper} {v : Value} {hs : List Nat} {a : Act} (ho : ops[i]? = some o) (hw : Region.wanted o (yielded ops a.tmps) = true)
    (h : ∀ w, S w → (execOp a.eval o).run P w = .ok (.value v) w) (hr : canonH P ops S L hs (a.put o.dst v)) : canonH P ops S L (i :: hs) a := ⟨o, v, ho, .inl ⟨hw, h⟩, hr⟩
theorem canonH_nil {L : Act → Prop} {a : Act} (h : L a) : canonH P ops S L [] a := h
/-- What two blocks hold. -/
structure TwoB (b1 : Nat) (cs1 : Array Value) (b2 : Nat) (cs2 : Array Value) (w : World) : Prop where
  one : ∀ i, w.cell? ⟨b1, i, none⟩ = cs1[i]?
  two : ∀ i, w.cell? ⟨b2, i, none⟩ = cs2[i]?
/-- What follows a chain's operation. -/
def Thn (Q : Exit → Act → World → Prop) (K : Act → World → Prop) : Exit → Act → World → Prop
  | .normal, a, w => K a w
  | e, a, w => Q e a w
theorem tailW_step {t t' : Nat} {ts : List Nat} {o : Oper} {a : Act} {w : World} (ho : ops[t]? = some o)
    (h : wpList P ops (Thn Q fun a' w' => S w' ∧ tailW P ops Q S (t' :: ts) a' w') [o] a w) : tailW P ops Q S (t :: t' :: ts) a w := by
  show wpOp P ops Q t _ a w
  unfold wpOp
  simp only [ho]
  unfold wpList at h
  split
  · rename_i hw
    rw [if_pos hw] at h
    rcases h with h | ⟨h1, b, w', h2⟩
    · refine .inl ?_
      unfold Oper.wp at *
      generalize (execOp a.eval o).run P w = r at *
      cases r with
      | ok n w' => cases n <;> first | exact h | exact Calls.mono h (fun e w'' he => by cases e <;> exact he) | exact Rows.mono h (fun u w'' he => he)
      | halt x w' => cases x <;> exact h
    · exact .inr ⟨h1, b, w', h2⟩
  · rename_i hw
    rw [if_neg hw] at h
    exact h
theorem tailW_last {t : Nat} {o : Oper} {a : Act} {w : World} (ho : ops[t]? = some o) (h : wpList P ops Q [o] a w) : tailW P ops Q S [t] a w := by
  show wpOp P ops Q t _ a w
  unfold wpOp
  simp only [ho]
  exact h
end
end Go.Proofs.Ytahmdnboeenfkaa

namespace Go.Proofs.Ytahmdnboeenfkaa
open Go.RowKit Go.Sort

def rngs (g : Nat → Int) (k : Nat) : List Int := (List.range k).map g
theorem rngs_succ (g : Nat → Int) (k : Nat) : rngs g k ++ [g k] = rngs g (k + 1) := by simp [rngs, List.range_succ]
def puts (h : Edg → Edg) (k : Nat) (l : List Edg) : List Edg := ((l.take k).map h).foldl putE []
theorem puts_zero (h : Edg → Edg) (l : List Edg) : puts h 0 l = [] := by simp [puts]
theorem puts_succ {h : Edg → Edg} {k : Nat} {l : List Edg} {e : Edg} (he : l[k]? = some e) : putE (puts h k l) (h e) = puts h (k + 1) l := by
  obtain ⟨hk, rfl⟩ := List.getElem?_eq_some_iff.1 he
  unfold puts
  rw [List.take_succ_eq_append_getElem hk, List.map_append, List.foldl_append]; rfl
theorem puts_all {h : Edg → Edg} {k : Nat} {l : List Edg} (hk : l.length ≤ k) : puts h k l = sortE (l.map h) := by
  unfold puts
  rw [List.take_of_length_le hk, foldl_sort]
theorem puts_length (h : Edg → Edg) (k : Nat) (l : List Edg) : (puts h k l).length ≤ k := by
  unfold puts
  rw [foldl_sort, sortE_length, List.length_map]
  exact List.length_take_le _ _
def FVof (W H : Int) (ds : List Int) (ps : List Edg) (A B : Option Addr) (n c m d : Nat) : FV := ⟨⟨W, H, ds, ps⟩, A, B, n, c, m, d⟩

set_option maxHeartbeats 4000000 in
set_option maxRecDepth 100000 in
theorem refMirror_any (v : FV) (w : World) (hv : v.In w) :
    Calls Try.prog 50 #[v.val] w (RetOwn (mirR v.f).1 (mirR v.f).2 w) := by
  have HVv := Lib.hid hv
  clear hv
  go_enter Try.func50, Try.ntmps50
  dsimp only [FV.val]
  go_wp2_with fail
  with_reducible refine (refValidate_any v _ (HVv.out.below (belowAA _ _ _))).mono ?_
  rintro r w1 ⟨rfl, hb1⟩
  have hR := (ResB.new w #[.int .i64 v.f.W, .int .i64 v.f.H, .slice v.A v.n v.c, .slice v.B v.m v.d] 25).on hb1
  have b0 := ((Box.new w #[.int .i64 v.f.W, .int .i64 v.f.H, .slice v.A v.n v.c, .slice v.B v.m v.d] 25).alloc (.cells #[.int .i64 0, .int .i64 0, .slice none 0 0, .slice none 0 0] 25)).below hb1
  have hw1 := Lib.hid (below2 _ _ hb1)
  clear hb1
  by_cases hz : valid v.f = 0
  case neg =>
    have hz' : (valid v.f != 0) = true := by simpa using hz
    have HF := Lib.hid (mirR_bad hz)
    have HR := Lib.hid hR
    have cr := hR.box.at
    have fr := hR.fz
    clear hz hR
    go_wp2_with fail
    have cF := (HR.out.box.four (.int .i64 0) (.int .i64 0) (.slice none 0 0) (.slice none 0 0)).at
    exact bodyPost_ret (v := .tuple #[.agg #[.int .i64 0, .int .i64 0, .slice none 0 0, .slice none 0 0], .int .i64 (valid v.f)]) (by simp [results, Try.results50, go_sem, cF]) rfl
      ⟨⟨zeroF, none, none, 0, 0, 0, 0⟩, by rw [HF.out], by rw [HF.out]; rfl, FOwn.zero _ _, res_bel HR.out.bel HR.out.le _ _ _ _⟩
  have ok := Lib.hid (okf_of_valid hz)
  have hz' : (valid v.f != 0) = false := by simpa using hz
  have HS := Lib.hid (mirR_ok hz)
  have HZ := Lib.hid hz
  have HV1 := Lib.hid (HVv.out.below hw1.out)
  have HRR := Lib.hid hR
  obtain ⟨n0, m0⟩ := okf_lens (okf_of_valid hz)
  have okw := ok.out.w2
  have okw1 := ok.out.w1
  have okh := ok.out.h2
  have okh1 := ok.out.h1
  have HN0 := Lib.hid n0
  have HM0 := Lib.hid m0
  have HM1 := Lib.hid (show v.m = v.f.ps.length from HVv.out.lenp)
  have hml : v.m ≤ 60 := by rw [HM1.out]; exact HM0.out
  obtain ⟨Wn, hWn⟩ := Int.eq_ofNat_of_zero_le (show 0 ≤ v.f.W by omega)
  obtain ⟨Hn, hHn⟩ := Int.eq_ofNat_of_zero_le (show 0 ≤ v.f.H by omega)
  have HW := Lib.hid hWn
  have HH := Lib.hid hHn
  have hWn1 : (Wn : Int) ≤ v.f.W := by omega
  have hWn2 : v.f.W ≤ (Wn : Int) := by omega
  have hHn1 : (Hn : Int) ≤ v.f.H := by omega
  have hHn2 : v.f.H ≤ (Hn : Int) := by omega
  clear hz hR n0 m0 hWn hHn
  have c0 := b0.at
  go_wp2_with fail
  clear c0
  refine wp_gen (fun W => ∃ A c, GF w1 (w1.heap.size + 1) (w1.heap.size + 1) W w1.heap.size ⟨⟨v.f.W, v.f.H, rngs (mirG v.f) 0, []⟩, A, none, 0, c, 0, 0⟩ ∧ w1.heap.size + 1 ≤ W.heap.size) ⟨none, 0, GF.new w1 w1 (Below.refl _ _) _ _ _ (by omega) (by omega), by simp⟩ ?_
  rintro w3 ⟨A0, c0, hg3, hz3⟩
  have HG3 := Lib.hid hg3
  clear hg3
  go_loopw [6] (fun i wr => ∃ y : Nat, (y : Int) ≤ v.f.H ∧ i = .int .i64 y ∧ (∃ A c, GF w1 (w1.heap.size + 1) (w1.heap.size + 1) wr w1.heap.size ⟨⟨v.f.W, v.f.H, rngs (mirG v.f) (y * Wn), []⟩, A, none, y * Wn, c, 0, 0⟩) ∧ w1.heap.size + 1 ≤ wr.heap.size) (fun i _ => (v.f.H - intOf i).toNat)
  case atStart => exact ⟨0, by omega, rfl, ⟨A0, c0, by rw [Nat.zero_mul]; exact HG3.out⟩, hz3⟩
  case round =>
    clear hz3
    obtain ⟨y, hy, rfl, ⟨A1, c1, hgy⟩, hzy⟩ := hrel
    have HGy := Lib.hid hgy
    have b3 := b0.below hgy.bel
    by_cases hlty : (y : Int) < v.f.H
    · have c0 := b3.at
      clear hgy
      go_wp2_with fail
      clear c0
      go_loopw [7] (fun i wr => ∃ x : Nat, (x : Int) ≤ v.f.W ∧ i = .int .i64 x ∧ (∃ A c, GF w1 (w1.heap.size + 1) (w1.heap.size + 1) wr w1.heap.size ⟨⟨v.f.W, v.f.H, rngs (mirG v.f) (y * Wn + x), []⟩, A, none, y * Wn + x, c, 0, 0⟩) ∧ w1.heap.size + 1 ≤ wr.heap.size) (fun i _ => (v.f.W - intOf i).toNat)
      case atStart => exact ⟨0, by omega, rfl, ⟨A1, c1, HGy.out⟩, hzy⟩
      case round =>
        clear b3 hzy
        obtain ⟨x, hx, rfl, ⟨A2, c2, hgx⟩, hzx⟩ := hrel
        have HGx := Lib.hid hgx
        have b3 := b0.below hgx.bel
        by_cases hltx : (x : Int) < v.f.W
        · obtain ⟨i0, i1, i2, i3, i4⟩ := idx_bd okw1 okw okh (show (0 : Int) ≤ x by omega) hltx (show (0 : Int) ≤ y by omega) hlty
          have hxW : x < Wn := by omega
          have hlen : y * Wn + x < 1000000000 := by
            have h1 : y * Wn ≤ 12 * 12 := Nat.mul_le_mul (by omega) (by omega)
            omega
          have HGV := Lib.hid (mirG_at (f := v.f) (y := y) HW.out hxW)
          obtain ⟨db0, db1⟩ := dir_bd ok.out (v.f.W - 1 - (x : Int)) (y : Int) (by omega) (by omega) (by omega) hlty
          have HV3 := Lib.hid (HV1.out.below hgx.bel)
          have Q0 := Lib.hid (fun w5 (hb : Below wr.heap.size wr w5) => refAt_any v (v.f.W - 1 - (x : Int)) (y : Int) w5 (HV3.out.below hb) ok.out.size (by omega) (by omega) (by omega) hlty)
          have co := hgx.box.at
          have c3 := b3.at
          have z3 := hgx.fz
          clear hgx
          go_wp2_with fail
          generalize v.f.dir (v.f.W - 1 - (x : Int)) (y : Int) = dd at db0 db1 HGV Q0
          refine wp_region_ht [0, 1, 2, 3, 4, 5, 6, 7, 8, 14] [9, 10, 11, 12, 13, 15] (TwoB w.heap.size #[.int .i64 v.f.W, .int .i64 v.f.H, .slice v.A v.n v.c, .slice v.B v.m v.d] w1.heap.size #[.int .i64 v.f.W, .int .i64 v.f.H, .slice A2 (y * Wn + x) c2, .slice none 0 0]) mixed (by kernel_rfl) ⟨b3.drew.at, HGx.out.box.drew.at⟩ ?_
          repeat
            refine canonH_step (v := ?_) rfl (by rfl) ?_ ?_
            rotate_left
            · intro w hSw
              obtain ⟨s1, s2⟩ := hSw
              go_simp <;> with_reducible rfl
            simp only [Act.put, List.setIfInBounds_toArray]
          refine canonH_nil ?_
          clear co c3 z3
          refine tailW_step rfl ?_
          go_wp2_with fail
          with_reducible refine (Q0.out _ (Below.refl _ _).drew).mono ?_
          rintro e w4 ⟨rfl, hb4⟩
          have b4 := b3.drew.below hb4
          have g4 := Lib.hid ((HGx.out.on (Below.refl _ _).drew).on hb4)
          have hz4 : w1.heap.size + 1 ≤ w4.heap.size := Nat.le_trans hzx hb4.size
          clear hb4 Q0 b3
          go_wp2_with fail
          refine ⟨⟨b4.at, g4.out.box.at⟩, ?_⟩
          refine tailW_step rfl ?_
          go_wp2_with fail
          refine ⟨⟨b4.at, g4.out.box.at⟩, ?_⟩
          refine tailW_step rfl ?_
          go_wp2_with fail
          with_reducible refine (eighth_any _ _).mono ?_
          rintro e w5 ⟨rfl, rfl⟩
          rw [← HGV.out]
          go_wp2_with fail
          refine ⟨⟨b4.at, g4.out.box.at⟩, ?_⟩
          refine tailW_step rfl ?_
          go_wp2_with fail
          refine ⟨⟨(b4.alloc _).at, (g4.out.box.alloc _).at⟩, ?_⟩
          refine tailW_step rfl ?_
          refine wpList_pushGI rfl _ _ rfl (w1.heap.size + 1) _ _ (y * Wn + x) (rngs (mirG v.f) (y * Wn + x)) (mirG v.f (y * Wn + x)) _ rfl (g4.out.on (belowA _ _)).ds (by rw [World.size_alloc]; omega) rfl (Box.new _ _ _) hlen ?_
          intro A' c' w6 hr1 hr2
          have HR1 := Lib.hid hr1
          have HR2 := Lib.hid hr2
          clear hr1 hr2
          go_wp2_with fail
          have g5 := Lib.hid (g4.out.on (belowA w4 (Obj.cells #[.int .i64 (mirG v.f (y * Wn + x))] 3)))
          have hz5 : w1.heap.size + 1 ≤ (w4.alloc (Obj.cells #[.int .i64 (mirG v.f (y * Wn + x))] 3)).heap.size := by rw [World.size_alloc]; omega
          have hbl := Lib.hid (g5.out.belA hz5 HR2.out)
          have hlt1 := Lib.hid HRR.out.box.1
          have b6 := (b4.alloc (Obj.cells #[.int .i64 (mirG v.f (y * Wn + x))] 3)).under hbl.out (by have := hlt1.out; omega)
          have bx6 := g5.out.box.under hbl.out (by omega)
          have hz6 : w1.heap.size + 1 ≤ w6.heap.size := Nat.le_trans hz5 hbl.out.size
          have f6 : ∀ i, w6.frozen? ⟨w1.heap.size, i, none⟩ = false := fun i => by rw [hbl.out.frozen (p := ⟨w1.heap.size, i, none⟩) (by show w1.heap.size < _; omega)]; exact g5.out.fz i
          have c6 := bx6.at
          refine ⟨⟨b6.at, bx6.at⟩, ?_⟩
          refine tailW_last rfl ?_
          go_wp2_with fail
          refine NoPanic.normal ?_
          have HG6 := Lib.hid (g5.out.putA rfl (by omega) hz5 HR1.out HR2.out)
          clear b4 c6 f6 bx6 b6 hz5
          go_wp2_with fail
          go_roundw
          case rel => exact ⟨x + 1, by omega, by go_num, ⟨A', c', by rw [← Nat.add_assoc, ← rngs_succ]; exact HG6.out⟩, by rw [size_set]; exact hz6⟩
          case measure => simp [intOf]; omega
        · have HX := Lib.hid (show y * Wn + x = (y + 1) * Wn by rw [show x = Wn by omega, Nat.add_mul, Nat.one_mul])
          have c3 := b3.at
          clear hgx
          go_wp2_with fail
          go_roundw
          case rel => exact ⟨y + 1, by omega, by go_num, ⟨A2, c2, by rw [← HX.out]; exact HGx.out⟩, hzx⟩
          case measure => simp [intOf]; omega
    · have hds : rngs (mirG v.f) (y * Wn) = (mirF v.f).ds := by
        have h1 : y = Hn := by omega
        unfold rngs mirF
        rw [HW.out, HH.out, h1, Nat.mul_comm]
        rfl
      have hyl : y * Wn ≤ 1000000 := by have : y * Wn ≤ 12 * 12 := Nat.mul_le_mul (by omega) (by omega); omega
      have HD := Lib.hid (show GF w1 (w1.heap.size + 1) (w1.heap.size + 1) wr w1.heap.size ⟨⟨v.f.W, v.f.H, (mirF v.f).ds, []⟩, A1, none, y * Wn, c1, 0, 0⟩ by rw [← hds]; exact hgy)
      have c3 := b3.at
      clear hgy HGy hds HG3
      go_wp2_with fail
      clear c3
      clear hy hlty b3
      go_loopw [8] (fun i wr => ∃ k : Nat, k ≤ v.m ∧ i = .int .i64 k ∧ (∃ Bp d, GF w1 (w1.heap.size + 1) (w1.heap.size + 1) wr w1.heap.size ⟨⟨v.f.W, v.f.H, (mirF v.f).ds, puts (mirE v.f.W) k v.f.ps⟩, A1, Bp, y * Wn, c1, (puts (mirE v.f.W) k v.f.ps).length, d⟩) ∧ w1.heap.size + 1 ≤ wr.heap.size) (fun i _ => v.m - (intOf i).toNat)
      case atStart => exact ⟨0, by omega, rfl, ⟨none, 0, by rw [puts_zero]; exact HD.out⟩, hzy⟩
      case round =>
        clear hzy
        obtain ⟨k, hk, rfl, ⟨Bp, dp, hgk⟩, hzk⟩ := hrel
        have HGk := Lib.hid hgk
        have b3 := b0.below hgk.bel
        by_cases hlt : k < v.m
        · obtain ⟨ad, e, e1, hbk, he, d0, d1, d2⟩ := psat (HV1.out.below hgk.bel).ps (k := k) (by rw [← HM1.out]; exact hlt)
          have X := fun w => ix23 (c := v.d) e1 hlt w
          have HEB := Lib.hid (isE_bd (ok.out.edge e (List.mem_of_getElem? he)))
          have HPS := Lib.hid (puts_succ (h := mirE v.f.W) he)
          have hpl := puts_length (mirE v.f.W) k v.f.ps
          obtain ⟨x, y', up⟩ := e
          obtain ⟨x0, x1, up01⟩ := HEB.out
          dsimp only at x0 x1 up01
          have u0 : 0 ≤ up := by omega
          have u1 : up ≤ 1 := by omega
          have co := hgk.box.at
          have coA := fun o => (hgk.box.alloc o).at
          have c3 := b3.at
          have c3A := fun o => (b3.alloc o).at
          clear hgk he e1 up01
          go_wp2_with fail
          show Calls Try.prog 90 #[.slice Bp (puts (mirE v.f.W) k v.f.ps).length dp, eval_ (mirE v.f.W (x, y', up))] _ _
          have g4 := Lib.hid (HGk.out.on (belowA wr (Obj.cells #[.int .i64 x, .int .i64 y', .int .i64 up] 33)))
          with_reducible refine (put_any _ _ _ _ _ _ (Reads.of_own g4.out.ps) (by show (puts (mirE v.f.W) k v.f.ps).length ≤ 1000000; omega)).mono ?_
          rintro r w5 ⟨B', d', rfl, hr5, hb5⟩
          have HR5 := Lib.hid hr5
          have HB5 := Lib.hid hb5
          have g5 := Lib.hid (g4.out.on hb5)
          have c5 := g5.out.box.at
          have f5 := g5.out.fz
          have hz5 : w1.heap.size + 1 ≤ w5.heap.size := by have := hb5.size; rw [World.size_alloc] at this; omega
          have hz4 : w1.heap.size + 1 ≤ (wr.alloc (Obj.cells #[.int .i64 x, .int .i64 y', .int .i64 up] 33)).heap.size := by rw [World.size_alloc]; omega
          have HG6 := Lib.hid (g4.out.putN hz4 HR5.out HB5.out)
          clear co coA c3 c3A hr5 hb5 b3 d0 d1 d2 X
          go_wp2_with fail
          go_roundw
          case rel => exact ⟨k + 1, by omega, by go_num, ⟨B', d', by rw [← HPS.out]; exact HG6.out⟩, by rw [size_set]; exact hz5⟩
          case measure => simp [intOf]; omega
        · have hres : Calls Try.prog 86 #[(⟨⟨v.f.W, v.f.H, (mirF v.f).ds, puts (mirE v.f.W) k v.f.ps⟩, A1, Bp, y * Wn, c1, (puts (mirE v.f.W) k v.f.ps).length, dp⟩ : FV).val] wr (RetOwn (fin (mirF v.f)) (valid (mirF v.f)) w1) := by
            have h := refResult_any ⟨⟨v.f.W, v.f.H, (mirF v.f).ds, puts (mirE v.f.W) k v.f.ps⟩, A1, Bp, y * Wn, c1, (puts (mirE v.f.W) k v.f.ps).length, dp⟩ w1 wr hgk.bel HGk.out.own
            have e : (⟨v.f.W, v.f.H, (mirF v.f).ds, puts (mirE v.f.W) k v.f.ps⟩ : Fld) = mirF v.f := by
              rw [puts_all (by rw [← HM1.out]; omega)]; rfl
            dsimp only at h
            rw [e] at h
            exact h
          have HRES := Lib.hid hres
          have co := hgk.box.at
          have c3 := b3.at
          clear hgk hres
          go_wp2_with fail
          with_reducible refine HRES.out.mono ?_
          rintro r w5 ⟨u', hu', rfl, ho5, hb5⟩
          have HU' := Lib.hid hu'
          have HO5 := Lib.hid ho5
          have HR5 := Lib.hid (HRR.out.on hb5)
          have hlt1 := Lib.hid HRR.out.box.1
          have cr := HR5.out.box.at
          have fr := HR5.out.fz
          clear hu' ho5 hb5 co c3 b3
          dsimp only [FV.val]
          go_wp2_with fail
          have cF := (HR5.out.box.four (.int .i64 u'.f.W) (.int .i64 u'.f.H) (.slice u'.A u'.n u'.c) (.slice u'.B u'.m u'.d)).at
          have HE := res_own HO5.out hlt1.out HR5.out.bel HR5.out.le hw1.out.size (.int .i64 u'.f.W) (.int .i64 u'.f.H) (.slice u'.A u'.n u'.c) (.slice u'.B u'.m u'.d)
          exact bodyPost_ret (v := .tuple #[.agg #[.int .i64 u'.f.W, .int .i64 u'.f.H, .slice u'.A u'.n u'.c, .slice u'.B u'.m u'.d], .int .i64 (valid (mirF v.f))]) (by simp [results, Try.results50, go_sem, cF]) rfl
            ⟨u', by rw [HU'.out, HS.out], by rw [HS.out], HE.1, HE.2⟩
end Go.Proofs.Ytahmdnboeenfkaa

namespace Go.Proofs.Ytahmdnboeenfkaa
open Go.RowKit Go.Sort

theorem isE_bd2 {W H : Int} {e : Edg} (h : isE W H e = true) : 0 ≤ e.2.1 ∧ e.2.1 < H ∧ (e.2.2 = 0 ∨ e.2.2 = 1) := by
  unfold isE at h
  simp at h
  omega
def quaG (f : Fld) (i : Nat) : Int := (f.dir ((i / f.H.toNat : Nat) : Int) (f.H - 1 - ((i % f.H.toNat : Nat) : Int)) + 2) % 8
def quaE (H : Int) (e : Edg) : Edg := (H - 1 - e.2.2 - e.2.1, e.1, 1 - e.2.2)
def quaF (f : Fld) : Fld := ⟨f.H, f.W, (List.range (f.W * f.H).toNat).map (quaG f), sortE (f.ps.map (quaE f.H))⟩
def quaR (f : Fld) : Fld × Int := if valid f ≠ 0 then (zeroF, valid f) else (fin (quaF f), valid (quaF f))
theorem quaR_bad {f : Fld} (h : valid f ≠ 0) : quaR f = (zeroF, valid f) := by unfold quaR; rw [if_pos h]
theorem quaR_ok {f : Fld} (h : valid f = 0) : quaR f = (fin (quaF f), valid (quaF f)) := by unfold quaR; rw [if_neg (by simpa using h)]
theorem quaG_at {f : Fld} {x y : Nat} {Hn : Nat} (hH : f.H = (Hn : Int)) (hx : x < Hn) : quaG f (y * Hn + x) = (f.dir (y : Int) (f.H - 1 - (x : Int)) + 2) % 8 := by
  have h1 : (y * Hn + x) % f.H.toNat = x := by rw [hH, Int.toNat_natCast, Nat.add_comm, Nat.add_mul_mod_self_right, Nat.mod_eq_of_lt hx]
  have h2 : (y * Hn + x) / f.H.toNat = y := by rw [hH, Int.toNat_natCast, Nat.add_comm, Nat.add_mul_div_right _ _ (by omega), Nat.div_eq_of_lt hx, Nat.zero_add]
  unfold quaG
  rw [h1, h2]

set_option maxHeartbeats 4000000 in
set_option maxRecDepth 100000 in
theorem refQuarter_any (v : FV) (w : World) (hv : v.In w) :
    Calls Try.prog 52 #[v.val] w (RetOwn (quaR v.f).1 (quaR v.f).2 w) := by
  have HVv := Lib.hid hv
  clear hv
  go_enter Try.func52, Try.ntmps52
  dsimp only [FV.val]
  go_wp2_with fail
  with_reducible refine (refValidate_any v _ (HVv.out.below (belowAA _ _ _))).mono ?_
  rintro r w1 ⟨rfl, hb1⟩
  have hR := (ResB.new w #[.int .i64 v.f.W, .int .i64 v.f.H, .slice v.A v.n v.c, .slice v.B v.m v.d] 25).on hb1
  have b0 := ((Box.new w #[.int .i64 v.f.W, .int .i64 v.f.H, .slice v.A v.n v.c, .slice v.B v.m v.d] 25).alloc (.cells #[.int .i64 0, .int .i64 0, .slice none 0 0, .slice none 0 0] 25)).below hb1
  have hw1 := Lib.hid (below2 _ _ hb1)
  clear hb1
  by_cases hz : valid v.f = 0
  case neg =>
    have hz' : (valid v.f != 0) = true := by simpa using hz
    have HF := Lib.hid (quaR_bad hz)
    have HR := Lib.hid hR
    have cr := hR.box.at
    have fr := hR.fz
    clear hz hR
    go_wp2_with fail
    have cF := (HR.out.box.four (.int .i64 0) (.int .i64 0) (.slice none 0 0) (.slice none 0 0)).at
    exact bodyPost_ret (v := .tuple #[.agg #[.int .i64 0, .int .i64 0, .slice none 0 0, .slice none 0 0], .int .i64 (valid v.f)]) (by simp [results, Try.results52, go_sem, cF]) rfl
      ⟨⟨zeroF, none, none, 0, 0, 0, 0⟩, by rw [HF.out], by rw [HF.out]; rfl, FOwn.zero _ _, res_bel HR.out.bel HR.out.le _ _ _ _⟩
  have ok := Lib.hid (okf_of_valid hz)
  have hz' : (valid v.f != 0) = false := by simpa using hz
  have HS := Lib.hid (quaR_ok hz)
  have HZ := Lib.hid hz
  have HV1 := Lib.hid (HVv.out.below hw1.out)
  have HRR := Lib.hid hR
  obtain ⟨n0, m0⟩ := okf_lens (okf_of_valid hz)
  have okw := ok.out.w2
  have okw1 := ok.out.w1
  have okh := ok.out.h2
  have okh1 := ok.out.h1
  have HN0 := Lib.hid n0
  have HM0 := Lib.hid m0
  have HM1 := Lib.hid (show v.m = v.f.ps.length from HVv.out.lenp)
  have hml : v.m ≤ 60 := by rw [HM1.out]; exact HM0.out
  obtain ⟨Wn, hWn⟩ := Int.eq_ofNat_of_zero_le (show 0 ≤ v.f.W by omega)
  obtain ⟨Hn, hHn⟩ := Int.eq_ofNat_of_zero_le (show 0 ≤ v.f.H by omega)
  have HW := Lib.hid hWn
  have HH := Lib.hid hHn
  have hWn1 : (Wn : Int) ≤ v.f.W := by omega
  have hWn2 : v.f.W ≤ (Wn : Int) := by omega
  have hHn1 : (Hn : Int) ≤ v.f.H := by omega
  have hHn2 : v.f.H ≤ (Hn : Int) := by omega
  clear hz hR n0 m0 hWn hHn
  have c0 := b0.at
  go_wp2_with fail
  clear c0
  refine wp_gen (fun W => ∃ A c, GF w1 (w1.heap.size + 1) (w1.heap.size + 1) W w1.heap.size ⟨⟨v.f.H, v.f.W, rngs (quaG v.f) 0, []⟩, A, none, 0, c, 0, 0⟩ ∧ w1.heap.size + 1 ≤ W.heap.size) ⟨none, 0, GF.new w1 w1 (Below.refl _ _) _ _ _ (by omega) (by omega), by simp⟩ ?_
  rintro w3 ⟨A0, c0, hg3, hz3⟩
  have HG3 := Lib.hid hg3
  clear hg3
  go_loopw [6] (fun i wr => ∃ y : Nat, (y : Int) ≤ v.f.W ∧ i = .int .i64 y ∧ (∃ A c, GF w1 (w1.heap.size + 1) (w1.heap.size + 1) wr w1.heap.size ⟨⟨v.f.H, v.f.W, rngs (quaG v.f) (y * Hn), []⟩, A, none, y * Hn, c, 0, 0⟩) ∧ w1.heap.size + 1 ≤ wr.heap.size) (fun i _ => (v.f.W - intOf i).toNat)
  case atStart => exact ⟨0, by omega, rfl, ⟨A0, c0, by rw [Nat.zero_mul]; exact HG3.out⟩, hz3⟩
  case round =>
    clear hz3
    obtain ⟨y, hy, rfl, ⟨A1, c1, hgy⟩, hzy⟩ := hrel
    have HGy := Lib.hid hgy
    have b3 := b0.below hgy.bel
    by_cases hlty : (y : Int) < v.f.W
    · have c0 := b3.at
      have co := HGy.out.box.at
      clear hgy
      go_wp2_with fail
      clear c0 co
      go_loopw [7] (fun i wr => ∃ x : Nat, (x : Int) ≤ v.f.H ∧ i = .int .i64 x ∧ (∃ A c, GF w1 (w1.heap.size + 1) (w1.heap.size + 1) wr w1.heap.size ⟨⟨v.f.H, v.f.W, rngs (quaG v.f) (y * Hn + x), []⟩, A, none, y * Hn + x, c, 0, 0⟩) ∧ w1.heap.size + 1 ≤ wr.heap.size) (fun i _ => (v.f.H - intOf i).toNat)
      case atStart => exact ⟨0, by omega, rfl, ⟨A1, c1, HGy.out⟩, hzy⟩
      case round =>
        clear b3 hzy
        obtain ⟨x, hx, rfl, ⟨A2, c2, hgx⟩, hzx⟩ := hrel
        have HGx := Lib.hid hgx
        have b3 := b0.below hgx.bel
        by_cases hltx : (x : Int) < v.f.H
        · obtain ⟨i0, i1, i2, i3, i4⟩ := idx_bd okw1 okw okh (show (0 : Int) ≤ y by omega) hlty (show (0 : Int) ≤ x by omega) hltx
          have hxW : x < Hn := by omega
          have hlen : y * Hn + x < 1000000000 := by
            have h1 : y * Hn ≤ 12 * 12 := Nat.mul_le_mul (by omega) (by omega)
            omega
          have HGV := Lib.hid (quaG_at (f := v.f) (y := y) HH.out hxW)
          obtain ⟨db0, db1⟩ := dir_bd ok.out (y : Int) (v.f.H - 1 - (x : Int)) (by omega) hlty (by omega) (by omega)
          have HV3 := Lib.hid (HV1.out.below hgx.bel)
          have Q0 := Lib.hid (fun w5 (hb : Below wr.heap.size wr w5) => refAt_any v (y : Int) (v.f.H - 1 - (x : Int)) w5 (HV3.out.below hb) ok.out.size (by omega) hlty (by omega) (by omega))
          have co := hgx.box.at
          have c3 := b3.at
          have z3 := hgx.fz
          clear hgx
          go_wp2_with fail
          generalize v.f.dir (y : Int) (v.f.H - 1 - (x : Int)) = dd at db0 db1 HGV Q0
          refine wp_region_ht [0, 1, 2, 3, 4, 5, 6, 7, 8, 14] [9, 10, 11, 12, 13, 15] (TwoB w.heap.size #[.int .i64 v.f.W, .int .i64 v.f.H, .slice v.A v.n v.c, .slice v.B v.m v.d] w1.heap.size #[.int .i64 v.f.H, .int .i64 v.f.W, .slice A2 (y * Hn + x) c2, .slice none 0 0]) mixed (by kernel_rfl) ⟨b3.drew.at, HGx.out.box.drew.at⟩ ?_
          repeat
            refine canonH_step (v := ?_) rfl (by rfl) ?_ ?_
            rotate_left
            · intro w hSw
              obtain ⟨s1, s2⟩ := hSw
              go_simp <;> with_reducible rfl
            simp only [Act.put, List.setIfInBounds_toArray]
          refine canonH_nil ?_
          clear co c3 z3
          refine tailW_step rfl ?_
          go_wp2_with fail
          with_reducible refine (Q0.out _ (Below.refl _ _).drew).mono ?_
          rintro e w4 ⟨rfl, hb4⟩
          have b4 := b3.drew.below hb4
          have g4 := Lib.hid ((HGx.out.on (Below.refl _ _).drew).on hb4)
          have hz4 : w1.heap.size + 1 ≤ w4.heap.size := Nat.le_trans hzx hb4.size
          clear hb4 Q0 b3
          go_wp2_with fail
          refine ⟨⟨b4.at, g4.out.box.at⟩, ?_⟩
          refine tailW_step rfl ?_
          go_wp2_with fail
          refine ⟨⟨b4.at, g4.out.box.at⟩, ?_⟩
          refine tailW_step rfl ?_
          go_wp2_with fail
          with_reducible refine (eighth_any _ _).mono ?_
          rintro e w5 ⟨rfl, rfl⟩
          rw [← HGV.out]
          go_wp2_with fail
          refine ⟨⟨b4.at, g4.out.box.at⟩, ?_⟩
          refine tailW_step rfl ?_
          go_wp2_with fail
          refine ⟨⟨(b4.alloc _).at, (g4.out.box.alloc _).at⟩, ?_⟩
          refine tailW_step rfl ?_
          refine wpList_pushGI rfl _ _ rfl (w1.heap.size + 1) _ _ (y * Hn + x) (rngs (quaG v.f) (y * Hn + x)) (quaG v.f (y * Hn + x)) _ rfl (g4.out.on (belowA _ _)).ds (by rw [World.size_alloc]; omega) rfl (Box.new _ _ _) hlen ?_
          intro A' c' w6 hr1 hr2
          have HR1 := Lib.hid hr1
          have HR2 := Lib.hid hr2
          clear hr1 hr2
          go_wp2_with fail
          have g5 := Lib.hid (g4.out.on (belowA w4 (Obj.cells #[.int .i64 (quaG v.f (y * Hn + x))] 3)))
          have hz5 : w1.heap.size + 1 ≤ (w4.alloc (Obj.cells #[.int .i64 (quaG v.f (y * Hn + x))] 3)).heap.size := by rw [World.size_alloc]; omega
          have hbl := Lib.hid (g5.out.belA hz5 HR2.out)
          have hlt1 := Lib.hid HRR.out.box.1
          have b6 := (b4.alloc (Obj.cells #[.int .i64 (quaG v.f (y * Hn + x))] 3)).under hbl.out (by have := hlt1.out; omega)
          have bx6 := g5.out.box.under hbl.out (by omega)
          have hz6 : w1.heap.size + 1 ≤ w6.heap.size := Nat.le_trans hz5 hbl.out.size
          have f6 : ∀ i, w6.frozen? ⟨w1.heap.size, i, none⟩ = false := fun i => by rw [hbl.out.frozen (p := ⟨w1.heap.size, i, none⟩) (by show w1.heap.size < _; omega)]; exact g5.out.fz i
          have c6 := bx6.at
          refine ⟨⟨b6.at, bx6.at⟩, ?_⟩
          refine tailW_last rfl ?_
          go_wp2_with fail
          refine NoPanic.normal ?_
          have HG6 := Lib.hid (g5.out.putA rfl (by omega) hz5 HR1.out HR2.out)
          clear b4 c6 f6 bx6 b6 hz5
          go_wp2_with fail
          go_roundw
          case rel => exact ⟨x + 1, by omega, by go_num, ⟨A', c', by rw [← Nat.add_assoc, ← rngs_succ]; exact HG6.out⟩, by rw [size_set]; exact hz6⟩
          case measure => simp [intOf]; omega
        · have HX := Lib.hid (show y * Hn + x = (y + 1) * Hn by rw [show x = Hn by omega, Nat.add_mul, Nat.one_mul])
          have c3 := b3.at
          have co := HGx.out.box.at
          clear hgx
          go_wp2_with fail
          go_roundw
          case rel => exact ⟨y + 1, by omega, by go_num, ⟨A2, c2, by rw [← HX.out]; exact HGx.out⟩, hzx⟩
          case measure => simp [intOf]; omega
    · have hds : rngs (quaG v.f) (y * Hn) = (quaF v.f).ds := by
        have h1 : y = Wn := by omega
        unfold rngs quaF
        rw [HW.out, HH.out, h1]
        rfl
      have hyl : y * Hn ≤ 1000000 := by have : y * Hn ≤ 12 * 12 := Nat.mul_le_mul (by omega) (by omega); omega
      have HD := Lib.hid (show GF w1 (w1.heap.size + 1) (w1.heap.size + 1) wr w1.heap.size ⟨⟨v.f.H, v.f.W, (quaF v.f).ds, []⟩, A1, none, y * Hn, c1, 0, 0⟩ by rw [← hds]; exact hgy)
      have c3 := b3.at
      have co := HD.out.box.at
      clear hgy HGy hds HG3
      go_wp2_with fail
      clear c3 co
      clear hy hlty b3
      go_loopw [8] (fun i wr => ∃ k : Nat, k ≤ v.m ∧ i = .int .i64 k ∧ (∃ Bp d, GF w1 (w1.heap.size + 1) (w1.heap.size + 1) wr w1.heap.size ⟨⟨v.f.H, v.f.W, (quaF v.f).ds, puts (quaE v.f.H) k v.f.ps⟩, A1, Bp, y * Hn, c1, (puts (quaE v.f.H) k v.f.ps).length, d⟩) ∧ w1.heap.size + 1 ≤ wr.heap.size) (fun i _ => v.m - (intOf i).toNat)
      case atStart => exact ⟨0, by omega, rfl, ⟨none, 0, by rw [puts_zero]; exact HD.out⟩, hzy⟩
      case round =>
        clear hzy
        obtain ⟨k, hk, rfl, ⟨Bp, dp, hgk⟩, hzk⟩ := hrel
        have HGk := Lib.hid hgk
        have b3 := b0.below hgk.bel
        by_cases hlt : k < v.m
        · obtain ⟨ad, e, e1, hbk, he, d0, d1, d2⟩ := psat (HV1.out.below hgk.bel).ps (k := k) (by rw [← HM1.out]; exact hlt)
          have X := fun w => ix23 (c := v.d) e1 hlt w
          have HEB := Lib.hid (isE_bd2 (ok.out.edge e (List.mem_of_getElem? he)))
          have HPS := Lib.hid (puts_succ (h := quaE v.f.H) he)
          have hpl := puts_length (quaE v.f.H) k v.f.ps
          obtain ⟨x, y', up⟩ := e
          obtain ⟨x0, x1, up01⟩ := HEB.out
          dsimp only at x0 x1 up01
          have u0 : 0 ≤ up := by omega
          have u1 : up ≤ 1 := by omega
          have co := hgk.box.at
          have coA := fun o => (hgk.box.alloc o).at
          have c3 := b3.at
          have c3A := fun o => (b3.alloc o).at
          clear hgk he e1 up01
          go_wp2_with fail
          show Calls Try.prog 90 #[.slice Bp (puts (quaE v.f.H) k v.f.ps).length dp, eval_ (quaE v.f.H (x, y', up))] _ _
          have g4 := Lib.hid (HGk.out.on (belowA wr (Obj.cells #[.int .i64 x, .int .i64 y', .int .i64 up] 33)))
          with_reducible refine (put_any _ _ _ _ _ _ (Reads.of_own g4.out.ps) (by show (puts (quaE v.f.H) k v.f.ps).length ≤ 1000000; omega)).mono ?_
          rintro r w5 ⟨B', d', rfl, hr5, hb5⟩
          have HR5 := Lib.hid hr5
          have HB5 := Lib.hid hb5
          have g5 := Lib.hid (g4.out.on hb5)
          have c5 := g5.out.box.at
          have f5 := g5.out.fz
          have hz5 : w1.heap.size + 1 ≤ w5.heap.size := by have := hb5.size; rw [World.size_alloc] at this; omega
          have hz4 : w1.heap.size + 1 ≤ (wr.alloc (Obj.cells #[.int .i64 x, .int .i64 y', .int .i64 up] 33)).heap.size := by rw [World.size_alloc]; omega
          have HG6 := Lib.hid (g4.out.putN hz4 HR5.out HB5.out)
          clear co coA c3 c3A hr5 hb5 b3 d0 d1 d2 X
          go_wp2_with fail
          go_roundw
          case rel => exact ⟨k + 1, by omega, by go_num, ⟨B', d', by rw [← HPS.out]; exact HG6.out⟩, by rw [size_set]; exact hz5⟩
          case measure => simp [intOf]; omega
        · have hres : Calls Try.prog 86 #[(⟨⟨v.f.H, v.f.W, (quaF v.f).ds, puts (quaE v.f.H) k v.f.ps⟩, A1, Bp, y * Hn, c1, (puts (quaE v.f.H) k v.f.ps).length, dp⟩ : FV).val] wr (RetOwn (fin (quaF v.f)) (valid (quaF v.f)) w1) := by
            have h := refResult_any ⟨⟨v.f.H, v.f.W, (quaF v.f).ds, puts (quaE v.f.H) k v.f.ps⟩, A1, Bp, y * Hn, c1, (puts (quaE v.f.H) k v.f.ps).length, dp⟩ w1 wr hgk.bel HGk.out.own
            have e : (⟨v.f.H, v.f.W, (quaF v.f).ds, puts (quaE v.f.H) k v.f.ps⟩ : Fld) = quaF v.f := by
              rw [puts_all (by rw [← HM1.out]; omega)]; rfl
            dsimp only at h
            rw [e] at h
            exact h
          have HRES := Lib.hid hres
          have co := hgk.box.at
          have c3 := b3.at
          clear hgk hres
          go_wp2_with fail
          with_reducible refine HRES.out.mono ?_
          rintro r w5 ⟨u', hu', rfl, ho5, hb5⟩
          have HU' := Lib.hid hu'
          have HO5 := Lib.hid ho5
          have HR5 := Lib.hid (HRR.out.on hb5)
          have hlt1 := Lib.hid HRR.out.box.1
          have cr := HR5.out.box.at
          have fr := HR5.out.fz
          clear hu' ho5 hb5 co c3 b3
          dsimp only [FV.val]
          go_wp2_with fail
          have cF := (HR5.out.box.four (.int .i64 u'.f.W) (.int .i64 u'.f.H) (.slice u'.A u'.n u'.c) (.slice u'.B u'.m u'.d)).at
          have HE := res_own HO5.out hlt1.out HR5.out.bel HR5.out.le hw1.out.size (.int .i64 u'.f.W) (.int .i64 u'.f.H) (.slice u'.A u'.n u'.c) (.slice u'.B u'.m u'.d)
          exact bodyPost_ret (v := .tuple #[.agg #[.int .i64 u'.f.W, .int .i64 u'.f.H, .slice u'.A u'.n u'.c, .slice u'.B u'.m u'.d], .int .i64 (valid (quaF v.f))]) (by simp [results, Try.results52, go_sem, cF]) rfl
            ⟨u', by rw [HU'.out, HS.out], by rw [HS.out], HE.1, HE.2⟩
end Go.Proofs.Ytahmdnboeenfkaa
