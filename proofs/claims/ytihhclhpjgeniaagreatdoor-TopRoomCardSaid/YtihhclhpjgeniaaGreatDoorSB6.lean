/- Merged texts: Ht Hu -/
import Derived.Test.YtihhclhpjgeniaaGreatDoorSB1
import Derived.StillTail
import Derived.OrdersHeld
import Derived.Deep.RegionHeld3
namespace Go.Proofs.YtihhclhpjgeniaaGreatDoor
open Go.RowKit Go.Sort
section
variable {P : Program} {ops : Array Oper} {md : Region.Mode} {Q : Exit → Act → World → Prop} {S : World → Prop}
def canonH (P : Program) (ops : Array Oper) (S : World → Prop) (L : Act → Prop) : List Nat → Act → Prop
 | [], a => L a
 | i :: hs, a => ∃ o v, ops[i]? = some o ∧ YieldsIf P ops S o v a ∧ canonH P ops S L hs (a.put o.dst v)
theorem canonH_some {L : Act → Prop} : ∀ (hs : List Nat) (a : Act), canonH P ops S L hs a → ∃ a', L a'
 | [], a, h => ⟨a, h⟩
 | _ :: hs, _, ⟨_, _, _, _, h⟩ => canonH_some hs _ h
theorem canonH_mono {L L' : Act → Prop} (hl : ∀ a, L a → L' a) : ∀ (hs : List Nat) (a : Act), canonH P ops S L hs a → canonH P ops S L' hs a
 | [], a, h => hl a h
 | _ :: hs, _, ⟨o, v, ho, hy, h⟩ => ⟨o, v, ho, hy, canonH_mono hl hs _ h⟩
theorem canonH_move {L : Act → Prop} {j : Nat} {oj : Oper} {q : List Nat} (hsel : ∀ (j : Nat) (o : Oper) cs b, ops[j]? = some o → o.op ≠ .select cs b) (hj : ops[j]? = some oj) :
  ∀ (p : List Nat) (a : Act), (∀ h ∈ p, ∀ oh, ops[h]? = some oh → oh.apart ops oj = true) → canonH P ops S L (p ++ j :: q) a → ∃ v, YieldsIf P ops S oj v a ∧ canonH P ops S L (p ++ q) (a.put oj.dst v)
 | [], a, _, ⟨o, v, ho, hy, hc⟩ => by
  obtain rfl : o = oj := Option.some.inj (ho.symm.trans hj)
  exact ⟨v, hy, hc⟩
 | h :: p, a, hap, ⟨o, u, ho, hy, hc⟩ => by
  obtain ⟨v, hyj, hcj⟩ := canonH_move hsel hj p (a.put o.dst u) (fun k hk => hap k (List.mem_cons_of_mem _ hk)) hc
  obtain ⟨h1, h2, h3⟩ := Oper.apart_spec (hap h List.mem_cons_self o ho)
  refine ⟨v, hyj.of_same (execOp_put oj (fun cs b => hsel j oj cs b hj) a o.dst u h1).symm (wanted_put oj a o.dst u h1).symm, o, u, ho, hy.of_same (execOp_put o (fun cs b => hsel h o cs b ho) a oj.dst v h3) (wanted_put o a oj.dst v h3), ?_⟩
  rw [← Act.put_comm a u v h2]
  exact hcj
theorem canonH_push {t : Nat} {ot : Oper} (hsel : ∀ (j : Nat) (o : Oper) cs b, ops[j]? = some o → o.op ≠ .select cs b) (ht : ops[t]? = some ot)
  (hQ : ∀ c (a : Act) d v w, Q (.panic c) (a.put d v) w → Q (.panic c) a w) {K : Act → World → Prop} {w : World} :
  ∀ (hs : List Nat) (a : Act), (∀ h ∈ hs, ∀ oh, ops[h]? = some oh → oh.apart ops ot = true) → canonH P ops S (fun a' => wpOp P ops Q t K a' w) hs a → wpOp P ops Q t (fun a' w' => canonH P ops S (fun a'' => K a'' w') hs a') a w
 | [], a, _, h => h
 | h :: hs, a, hap, ⟨o, v, ho, hy, hc⟩ => by
  have := canonH_push hsel ht hQ hs (a.put o.dst v) (fun k hk => hap k (List.mem_cons_of_mem _ hk)) hc
  exact wpOp_mono (fun a' w' ⟨hy', hk⟩ => ⟨o, v, ho, hy', hk⟩) (wpOp_putIf ht (hap h List.mem_cons_self o ho) (fun cs b => hsel h o cs b ho) (fun cs b => hsel t ot cs b ht) (fun c a w => hQ c a _ _ w) hy this)
def tailW (P : Program) (ops : Array Oper) (Q : Exit → Act → World → Prop) (S : World → Prop) : List Nat → Act → World → Prop
 | [], a, w => Q .normal a w
 | [t], a, w => wpOp P ops Q t (fun a' w' => Q .normal a' w') a w
 | t :: t' :: ts, a, w => wpOp P ops Q t (fun a' w' => S w' ∧ tailW P ops Q S (t' :: ts) a' w') a w
def chainT (md : Region.Mode) (ops : Array Oper) : List Nat → Bool
 | t :: t' :: ts => Region.waitsFor md ops t' t && chainT md ops (t' :: ts)
 | _ => true
def downB (md : Region.Mode) (ops : Array Oper) : Bool := (List.range ops.size).all fun i => ((ops[i]?).map (·.after.all fun e => !Region.binds md e || decide (e.on < i))).getD true
def ap1 (md : Region.Mode) (ops : Array Oper) (h j : Nat) : Bool := Region.waitsFor md ops j h || (match ops[h]?, ops[j]? with | some oh, some oj => oh.apart ops oj | _, _ => true)
def pairB (md : Region.Mode) (ops : Array Oper) : List Nat → Bool
 | [] => true
 | h :: hs => hs.all (ap1 md ops h) && pairB md ops hs
def crossB (md : Region.Mode) (ops : Array Oper) (hs ts : List Nat) : Bool := hs.all fun h => ts.all (ap1 md ops h)
theorem pairB_spec : ∀ (hs : List Nat), pairB md ops hs = true → hs.Pairwise fun h j => ap1 md ops h j = true
 | [], _ => List.Pairwise.nil
 | h :: hs, hh => by
  simp only [pairB, Bool.and_eq_true, List.all_eq_true] at hh
  exact List.pairwise_cons.2 ⟨hh.1, pairB_spec hs hh.2⟩
def htB (md : Region.Mode) (ops : Array Oper) (hs ts : List Nat) : Bool :=
 Region.noSelect ops && Region.sinkB md ops (ops.size - 1) && Region.chainB md ops (ops.size - 1) && decide (0 < ops.size) && downB md ops && pairB md ops hs && crossB md ops hs ts && chainT md ops ts &&
 decide ((hs ++ ts).Nodup) && (hs ++ ts).all (fun i => decide (i < ops.size)) && (List.range ops.size).all (fun i => (hs ++ ts).contains i) && decide (ts.getLast? = some (ops.size - 1)) && decide (ops.size = hs.length + ts.length)
structure Rem (md : Region.Mode) (ops : Array Oper) (hs ts : List Nat) (listed : Array Bool) : Prop where
 inv : HeadInv md ops (ops.size - 1) listed
 mem : ∀ i, listed.getD i true = false ↔ i ∈ hs ++ ts
 nd : (hs ++ ts).Nodup
 lt : ∀ i ∈ hs ++ ts, i < ops.size
 chain : chainT md ops ts = true
 last : ts.getLast? = some (ops.size - 1)
 ap : hs.Pairwise fun h j => ap1 md ops h j = true
 cr : ∀ h ∈ hs, ∀ t ∈ ts, ap1 md ops h t = true
theorem ap1_spec {i j : Nat} {oi oj : Oper} (h : ap1 md ops i j = true) (h1 : ops[i]? = some oi) (h2 : ops[j]? = some oj) (hw : Region.waitsFor md ops j i = false) : oi.apart ops oj = true := by
 unfold ap1 at h
 rw [h1, h2, hw] at h
 simpa using h
theorem ready_waits {listed : Array Bool} {i j : Nat} (hj : j ∈ Region.ready md ops listed) (hi : listed.getD i true = false) : Region.waitsFor md ops j i = false := by
 cases hc : Region.waitsFor md ops j i with
 | false => rfl
 | true =>
 exfalso
 obtain ⟨oj, hoj, e, he, hb, rfl⟩ := Region.waitsFor_spec hc
 obtain ⟨_, o, ho, hall⟩ := mem_ready.1 hj
 obtain rfl : oj = o := Option.some.inj (hoj.symm.trans ho)
 have := hall e he hb
 rw [getD_both hi] at this
 cases this
theorem getD_set_self {listed : Array Bool} {j : Nat} (hj : j < listed.size) : (listed.setIfInBounds j true).getD j true = true := by simp [hj]
theorem least_of {p : Nat → Bool} : ∀ n, p n = false → ∃ m, p m = false ∧ ∀ k, k < m → p k = true := by
 intro n
 induction n using Nat.strongRecOn with
 | _ n ih =>
  intro h
  rcases Classical.em (∃ k, k < n ∧ p k = false) with ⟨k, hk, hp⟩ | hno
  ·exact ih k hk hp
  ·exact ⟨n, h, fun k hk => by cases hp : p k with | true => rfl | false => exact absurd ⟨k, hk, hp⟩ hno⟩
theorem wpAny_ht (hsel : Region.noSelect ops = true) (hsk : Region.sinkB md ops (ops.size - 1) = true) (hck : Region.chainB md ops (ops.size - 1) = true) (h0 : 0 < ops.size) (hdn : downB md ops = true)
  (hQ : ∀ c (a : Act) d v w, Q (.panic c) (a.put d v) w → Q (.panic c) a w) :
  ∀ (f : Nat) (hs ts : List Nat) (listed : Array Bool) (a : Act) (w : World), f + 1 = hs.length + ts.length → Rem md ops hs ts listed → S w → canonH P ops S (fun a' => tailW P ops Q S ts a' w) hs a → wpAny P md ops Q (f + 1) listed a w
 | f, hs, ts, listed, a, w, hf, R, hS, hc => by
  have hselS := Region.noSelect_spec hsel
  refine ⟨fun hr => ?_, fun j hj => ?_⟩
  ·exfalso
   -- the least of what is to come is ready
   have hlast : ops.size - 1 ∈ hs ++ ts := List.mem_append.2 (.inr (List.mem_of_getLast? R.last))
   obtain ⟨m, hmin, hless⟩ := least_of (p := fun i => listed.getD i true) _ ((R.mem _).2 hlast)
   have hlt := R.lt _ ((R.mem _).1 hmin)
   have : m ∈ Region.ready md ops listed := by
    rw [mem_ready]
    refine ⟨hmin, ops[m], by simp [hlt], fun e he hb => ?_⟩
    unfold downB at hdn
    rw [List.all_eq_true] at hdn
    have h1 := hdn m (List.mem_range.2 hlt)
    rw [Array.getElem?_eq_getElem hlt] at h1
    simp only [Option.map_some, Option.getD_some, Array.all_eq_true_iff_forall_mem] at h1
    have h2 := h1 e he
    rw [hb] at h2
    have h3 : e.on < m := by simpa using h2
    have h4 : listed.getD e.on true = true := hless e.on h3
    have h5 : e.on < listed.size := by rw [R.inv.size]; omega
    simp [h5] at h4 ⊢
    exact h4
   rw [hr] at this
   cases this
  ·obtain ⟨hun, oj, hoj, hall⟩ := mem_ready.1 hj
   have hjlt : j < ops.size := (Array.getElem?_eq_some_iff.1 hoj).1
   have hapj : ∀ h ∈ hs, ap1 md ops h j = true → ∀ oh, ops[h]? = some oh → oh.apart ops oj = true := fun h hh h1 oh hoh =>
    ap1_spec h1 hoh hoj (ready_waits hj ((R.mem h).2 (List.mem_append.2 (.inl hh))))
   have hmem' : ∀ i, (listed.setIfInBounds j true).getD i true = false ↔ i ≠ j ∧ i ∈ hs ++ ts := fun i => by
    by_cases hij : i = j
    ·subst hij
     simp only [ne_eq, not_true_eq_false, false_and, iff_false]
     rw [getD_set_self (by rw [R.inv.size]; exact hjlt)]; simp
    ·rw [getD_set_ne true (Ne.symm hij), R.mem]; simp [hij]
   rcases List.mem_append.1 ((R.mem j).1 hun) with hjh | hjt
   ·obtain ⟨p, q, rfl⟩ := List.append_of_mem hjh
    have hnd := R.nd
    rw [List.append_assoc, List.cons_append, List.nodup_append] at hnd
    obtain ⟨n1, n2, n3⟩ := hnd
    rw [List.nodup_cons] at n2
    have apq := List.pairwise_append.1 R.ap
    have hjp : j ∉ p := fun h => n3 j h j List.mem_cons_self rfl
    obtain ⟨v, hy, hcv⟩ := canonH_move hselS hoj p a (fun h hh => hapj h (by simp [hh]) (apq.2.2 h hh j List.mem_cons_self)) hc
    have hjn : j < ops.size - 1 := by
     have h1 : ops.size - 1 ∈ ts := List.mem_of_getLast? R.last
     have : j ≠ ops.size - 1 := fun e => n2.1 (List.mem_append.2 (.inr (e ▸ h1)))
     omega
    refine hy.wpOp hoj hS ?_
    cases f with
    | zero =>
     exfalso
     have h1 : 0 < ts.length := by have := R.last; cases ts with | nil => cases this | cons => simp
     simp at hf
     omega
    | succ f =>
     refine wpAny_ht hsel hsk hck h0 hdn hQ f (p ++ q) ts _ _ w (by simp at hf ⊢; omega) ⟨R.inv.set hj hjn, fun i => ?_, ?_, fun i hi => R.lt i ?_, R.chain, R.last, List.pairwise_append.2 ⟨apq.1, (List.pairwise_cons.1 apq.2.1).2, fun x hx y hy => apq.2.2 x hx y (List.mem_cons_of_mem _ hy)⟩, fun h hh => R.cr h ?_⟩ hS hcv
     ·rw [hmem']
      simp only [List.mem_append, List.mem_cons]
      refine ⟨fun ⟨h1, h2⟩ => ?_, fun h => ⟨fun e => ?_, ?_⟩⟩
      ·rcases h2 with (h2 | h2 | h2) | h2
       ·exact .inl (.inl h2)
       ·exact absurd h2 h1
       ·exact .inl (.inr h2)
       ·exact .inr h2
      ·subst e
       rcases h with (h | h) | h
       ·exact hjp h
       ·exact n2.1 (List.mem_append.2 (.inl h))
       ·exact n2.1 (List.mem_append.2 (.inr h))
      ·rcases h with (h | h) | h
       ·exact .inl (.inl h)
       ·exact .inl (.inr (.inr h))
       ·exact .inr h
     ·rw [List.append_assoc, List.nodup_append]
      exact ⟨n1, n2.2, fun x hx y hy => n3 x hx y (List.mem_cons_of_mem _ hy)⟩
     ·simp only [List.mem_append, List.mem_cons] at hi ⊢
      rcases hi with (h | h) | h
      ·exact .inl (.inl h)
      ·exact .inl (.inr (.inr h))
      ·exact .inr h
     ·simp only [List.mem_append, List.mem_cons] at hh ⊢
      rcases hh with h | h
      ·exact .inl h
      ·exact .inr (.inr h)
   ·-- an operation of the chain: it is the first one
    cases ts with
    | nil => cases hjt
    | cons t ts =>
     have hnd := R.nd
     rw [List.nodup_append] at hnd
     obtain ⟨n1, n2, n3⟩ := hnd
     have hjh : ∀ h ∈ hs, h ≠ j := fun h hh e => n3 h hh j hjt e
     have hjt' : j = t := by
      rcases Classical.em (j = t) with h | hne
      ·exact h
      exfalso
      have hmem : j ∈ ts := by rcases List.mem_cons.1 hjt with h | h; exact absurd h hne; exact h
      have key : ∀ (l : List Nat) (t : Nat), chainT md ops (t :: l) = true → j ∈ l → ∃ k ∈ t :: l, Region.waitsFor md ops j k = true := by
       intro l
       induction l with
       | nil => intro t _ h; cases h
       | cons x l ih =>
        intro t hch h
        simp only [chainT, Bool.and_eq_true] at hch
        rcases List.mem_cons.1 h with rfl | h
        ·exact ⟨t, List.mem_cons_self, hch.1⟩
        ·obtain ⟨k, hk, hw⟩ := ih x hch.2 h
         exact ⟨k, List.mem_cons_of_mem _ hk, hw⟩
      obtain ⟨k, hk, hw⟩ := key ts t R.chain hmem
      rw [ready_waits hj ((R.mem k).2 (List.mem_append.2 (.inr hk)))] at hw
      cases hw
     subst hjt'
     cases ts with
     | nil =>
      have hjl : j = ops.size - 1 := by have := R.last; simpa using this
      have hnil : hs = [] := by
       cases hs with
       | nil => rfl
       | cons h hs =>
        exfalso
        have h1 : h ∈ h :: hs := List.mem_cons_self
        have h2 := (R.mem h).2 (List.mem_append.2 (.inl h1))
        have h3 : h < ops.size - 1 := by
         have := R.lt h (List.mem_append.2 (.inl h1))
         have := hjh h h1
         omega
        exact tail_waits hsk hck (by omega) R.inv _ h rfl h3 h2 j (by omega) hj
      subst hnil
      obtain rfl : f = 0 := by simpa using hf
      refine wpOp_mono (fun a' w' hq => ⟨?_, hq⟩) hc
      refine List.eq_nil_iff_forall_not_mem.2 fun i hi => ?_
      have := (hmem' i).1 (mem_ready.1 hi).1
      simp at this
     | cons t' ts =>
      have hjn : j < ops.size - 1 := by
       have h1 : ops.size - 1 ∈ t' :: ts := List.mem_of_getLast? (by have := R.last; simpa [List.getLast?_cons_cons] using this)
       have : j ≠ ops.size - 1 := fun e => (List.nodup_cons.1 n2).1 (e ▸ h1)
       omega
      have h1 := canonH_push (K := fun a' w' => S w' ∧ tailW P ops Q S (t' :: ts) a' w') hselS hoj hQ hs a (fun h hh => hapj h hh (R.cr h hh j List.mem_cons_self)) hc
      cases f with
      | zero => exfalso; simp at hf; omega
      | succ f =>
       refine wpOp_mono (fun a' w' hk => ?_) h1
       obtain ⟨_, hS', _⟩ := canonH_some hs a' hk
       refine wpAny_ht hsel hsk hck h0 hdn hQ f hs (t' :: ts) _ a' w' (by simp at hf ⊢; omega) ⟨R.inv.set hj hjn, fun i => ?_, ?_, fun i hi => R.lt i ?_, ?_, ?_, R.ap, fun h hh t ht => R.cr h hh t (List.mem_cons_of_mem _ ht)⟩ hS' (canonH_mono (fun _ h => h.2) hs a' hk)
       ·rw [hmem']
        simp only [List.mem_append, List.mem_cons]
        refine ⟨fun ⟨h1, h2⟩ => ?_, fun h => ⟨fun e => ?_, ?_⟩⟩
        ·rcases h2 with h2 | h2 | h2
         ·exact .inl h2
         ·exact absurd h2 h1
         ·exact .inr h2
        ·subst e
         rcases h with h | h
         ·exact hjh _ h rfl
         ·exact (List.nodup_cons.1 n2).1 (List.mem_cons.2 h)
        ·rcases h with h | h
         ·exact .inl h
         ·exact .inr (.inr h)
       ·rw [List.nodup_append]
        exact ⟨n1, (List.nodup_cons.1 n2).2, fun x hx y hy => n3 x hx y (List.mem_cons_of_mem _ hy)⟩
       ·simp only [List.mem_append, List.mem_cons] at hi ⊢
        rcases hi with h | h
        ·exact .inl h
        ·exact .inr (.inr h)
       ·have := R.chain; simp only [chainT, Bool.and_eq_true] at this; exact this.2
       ·have := R.last; simpa [List.getLast?_cons_cons] using this
theorem wp_region_ht {id : Nat} {a : Act} {w : World} {l : List Oper} (hs ts : List Nat) (S : World → Prop) (hm : P.follows .mixedOrders = true) (hB : htB .any l.toArray hs ts = true)
  (hS : S w.drew) (h : canonH P l.toArray S (fun a' => tailW P l.toArray (NoPanic Q) S ts a' w.drew) hs a) : (Code.region id l.toArray true).wp P Q a w := by
 simp only [htB, Bool.and_eq_true, decide_eq_true_eq] at hB
 obtain ⟨⟨⟨⟨⟨⟨⟨⟨⟨⟨⟨⟨b1, b2⟩, b3⟩, b4⟩, b5⟩, b6⟩, bc⟩, b7⟩, b8⟩, b9⟩, b10⟩, b11⟩, b12⟩ := hB
 refine wp_region_noPanic (wp_region_any hm ?_)
 rw [List.all_eq_true] at b9 b10
 have hlt : ∀ i ∈ hs ++ ts, i < l.toArray.size := fun i hi => by simpa using b9 i hi
 obtain ⟨f, hf⟩ : ∃ f, l.toArray.size = f + 1 := ⟨l.toArray.size - 1, by omega⟩
 have R : Rem .any l.toArray hs ts (Array.replicate l.toArray.size false) := by
  refine ⟨⟨by simp, fun j oj _ hl => (by rw [getD_replicate_false] at hl; cases hl), fun t _ ht => getD_in (by simpa using ht) (getD_replicate_false _ _)⟩, fun i => ⟨fun hi => ?_, fun hi => ?_⟩, b8, hlt, b7, b11, pairB_spec _ b6, fun h hh t ht => by unfold crossB at bc; rw [List.all_eq_true] at bc; have := bc h hh; rw [List.all_eq_true] at this; exact this t ht⟩
  ·rcases Nat.lt_or_ge i l.toArray.size with h | h
   ·simpa using b10 i (List.mem_range.2 h)
   ·rw [show (Array.replicate l.toArray.size false).getD i true = true by simp [Nat.not_lt.2 (by simpa using h)]] at hi; cases hi
  ·exact getD_in (by simpa using hlt i hi) (getD_replicate_false _ _)
 have := wpAny_ht (P := P) (Q := NoPanic Q) (S := S) b1 b2 b3 b4 b5 (fun _ _ _ _ _ h => h) f hs ts _ a w.drew (by omega) R hS h
 rw [← hf] at this
 exact this
theorem canonH_step {L : Act → Prop} {i : Nat} {o : Oper} {v : Value} {hs : List Nat} {a : Act} (ho : ops[i]? = some o) (hw : Region.wanted o (yielded ops a.tmps) = true)
  (h : ∀ w, S w → (execOp a.eval o).run P w = .ok (.value v) w) (hr : canonH P ops S L hs (a.put o.dst v)) : canonH P ops S L (i :: hs) a := ⟨o, v, ho, .inl ⟨hw, h⟩, hr⟩
theorem canonH_nil {L : Act → Prop} {a : Act} (h : L a) : canonH P ops S L [] a := h
def Thn (Q : Exit → Act → World → Prop) (K : Act → World → Prop) : Exit → Act → World → Prop
 | .normal, a, w => K a w
 | e, a, w => Q e a w
theorem tailW_step {t t' : Nat} {ts : List Nat} {o : Oper} {a : Act} {w : World} (ho : ops[t]? = some o)
  (h : wpList P ops (Thn Q fun a' w' => S w' ∧ tailW P ops Q S (t' :: ts) a' w') [o] a w) : tailW P ops Q S (t :: t' :: ts) a w := by
 show wpOp P ops Q t _ a w
 unfold wpOp
 simp only [ho]
 unfold wpList at h
 split
 ·rename_i hw
  rw [if_pos hw] at h
  rcases h with h | ⟨h1, b, w', h2⟩
  ·refine .inl ?_
   unfold Oper.wp at *
   generalize (execOp a.eval o).run P w = r at *
   cases r with
   | ok n w' => cases n <;> first | exact h | exact Calls.mono h (fun e w'' he => by cases e <;> exact he) | exact Rows.mono h (fun u w'' he => he)
   | halt x w' => cases x <;> exact h
  ·exact .inr ⟨h1, b, w', h2⟩
 ·rename_i hw
  rw [if_neg hw] at h
  exact h
theorem tailW_last {t : Nat} {o : Oper} {a : Act} {w : World} (ho : ops[t]? = some o) (h : wpList P ops Q [o] a w) : tailW P ops Q S [t] a w := by
 show wpOp P ops Q t _ a w
 unfold wpOp
 simp only [ho]
 exact h
end
end Go.Proofs.YtihhclhpjgeniaaGreatDoor
namespace Go.Proofs.YtihhclhpjgeniaaGreatDoor
open Go.RowKit Go.Sort
section
variable {P : Program} {ops : Array Oper} {md : Region.Mode} {Q : Exit → Act → World → Prop} {S : World → Prop}
def readyT (md : Region.Mode) (ops : Array Oper) (ts : List Nat) : List Nat := ts.filter fun t => ts.all fun u => !Region.waitsFor md ops t u
def tailA (P : Program) (md : Region.Mode) (ops : Array Oper) (Q : Exit → Act → World → Prop) (S : World → Prop) : Nat → List Nat → Act → World → Prop
 | 0, _, a, w => Q .normal a w
 | 1, ts, a, w => ∀ t ∈ readyT md ops ts, wpOp P ops Q t (fun a' w' => Q .normal a' w') a w
 | n + 2, ts, a, w => ∀ t ∈ readyT md ops ts, wpOp P ops Q t (fun a' w' => S w' ∧ tailA P md ops Q S (n + 1) (ts.erase t) a' w') a w
def huB (md : Region.Mode) (ops : Array Oper) (hs ts : List Nat) : Bool :=
 Region.noSelect ops && Region.sinkB md ops (ops.size - 1) && Region.chainB md ops (ops.size - 1) && decide (0 < ops.size) && downB md ops && pairB md ops hs && crossB md ops hs ts &&
 decide ((hs ++ ts).Nodup) && (hs ++ ts).all (fun i => decide (i < ops.size)) && (List.range ops.size).all (fun i => (hs ++ ts).contains i) && ts.contains (ops.size - 1) && decide (ops.size = hs.length + ts.length)
structure RemU (md : Region.Mode) (ops : Array Oper) (hs ts : List Nat) (listed : Array Bool) : Prop where
 inv : HeadInv md ops (ops.size - 1) listed
 mem : ∀ i, listed.getD i true = false ↔ i ∈ hs ++ ts
 nd : (hs ++ ts).Nodup
 lt : ∀ i ∈ hs ++ ts, i < ops.size
 last : ops.size - 1 ∈ ts
 ap : hs.Pairwise fun h j => ap1 md ops h j = true
 cr : ∀ h ∈ hs, ∀ t ∈ ts, ap1 md ops h t = true
theorem wpAny_hu (hsel : Region.noSelect ops = true) (hsk : Region.sinkB md ops (ops.size - 1) = true) (hck : Region.chainB md ops (ops.size - 1) = true) (h0 : 0 < ops.size) (hdn : downB md ops = true)
  (hQ : ∀ c (a : Act) d v w, Q (.panic c) (a.put d v) w → Q (.panic c) a w) :
  ∀ (f : Nat) (hs ts : List Nat) (listed : Array Bool) (a : Act) (w : World), f + 1 = hs.length + ts.length → RemU md ops hs ts listed → S w → canonH P ops S (fun a' => tailA P md ops Q S ts.length ts a' w) hs a → wpAny P md ops Q (f + 1) listed a w
 | f, hs, ts, listed, a, w, hf, R, hS, hc => by
  have hselS := Region.noSelect_spec hsel
  refine ⟨fun hr => ?_, fun j hj => ?_⟩
  ·exfalso
   -- the least of what is to come is ready
   have hlast : ops.size - 1 ∈ hs ++ ts := List.mem_append.2 (.inr R.last)
   obtain ⟨m, hmin, hless⟩ := least_of (p := fun i => listed.getD i true) _ ((R.mem _).2 hlast)
   have hlt := R.lt _ ((R.mem _).1 hmin)
   have : m ∈ Region.ready md ops listed := by
    rw [mem_ready]
    refine ⟨hmin, ops[m], by simp [hlt], fun e he hb => ?_⟩
    unfold downB at hdn
    rw [List.all_eq_true] at hdn
    have h1 := hdn m (List.mem_range.2 hlt)
    rw [Array.getElem?_eq_getElem hlt] at h1
    simp only [Option.map_some, Option.getD_some, Array.all_eq_true_iff_forall_mem] at h1
    have h2 := h1 e he
    rw [hb] at h2
    have h3 : e.on < m := by simpa using h2
    have h4 : listed.getD e.on true = true := hless e.on h3
    have h5 : e.on < listed.size := by rw [R.inv.size]; omega
    simp [h5] at h4 ⊢
    exact h4
   rw [hr] at this
   cases this
  ·obtain ⟨hun, oj, hoj, hall⟩ := mem_ready.1 hj
   have hjlt : j < ops.size := (Array.getElem?_eq_some_iff.1 hoj).1
   have hapj : ∀ h ∈ hs, ap1 md ops h j = true → ∀ oh, ops[h]? = some oh → oh.apart ops oj = true := fun h hh h1 oh hoh =>
    ap1_spec h1 hoh hoj (ready_waits hj ((R.mem h).2 (List.mem_append.2 (.inl hh))))
   have hmem' : ∀ i, (listed.setIfInBounds j true).getD i true = false ↔ i ≠ j ∧ i ∈ hs ++ ts := fun i => by
    by_cases hij : i = j
    ·subst hij
     simp only [ne_eq, not_true_eq_false, false_and, iff_false]
     rw [getD_set_self (by rw [R.inv.size]; exact hjlt)]; simp
    ·rw [getD_set_ne true (Ne.symm hij), R.mem]; simp [hij]
   rcases List.mem_append.1 ((R.mem j).1 hun) with hjh | hjt
   ·obtain ⟨p, q, rfl⟩ := List.append_of_mem hjh
    have hnd := R.nd
    rw [List.append_assoc, List.cons_append, List.nodup_append] at hnd
    obtain ⟨n1, n2, n3⟩ := hnd
    rw [List.nodup_cons] at n2
    have apq := List.pairwise_append.1 R.ap
    have hjp : j ∉ p := fun h => n3 j h j List.mem_cons_self rfl
    obtain ⟨v, hy, hcv⟩ := canonH_move hselS hoj p a (fun h hh => hapj h (by simp [hh]) (apq.2.2 h hh j List.mem_cons_self)) hc
    have hjn : j < ops.size - 1 := by
     have h1 : ops.size - 1 ∈ ts := R.last
     have : j ≠ ops.size - 1 := fun e => n2.1 (List.mem_append.2 (.inr (e ▸ h1)))
     omega
    refine hy.wpOp hoj hS ?_
    cases f with
    | zero =>
     exfalso
     have h1 : 0 < ts.length := List.length_pos_of_mem R.last
     simp at hf
     omega
    | succ f =>
     refine wpAny_hu hsel hsk hck h0 hdn hQ f (p ++ q) ts _ _ w (by simp at hf ⊢; omega) ⟨R.inv.set hj hjn, fun i => ?_, ?_, fun i hi => R.lt i ?_, R.last, List.pairwise_append.2 ⟨apq.1, (List.pairwise_cons.1 apq.2.1).2, fun x hx y hy => apq.2.2 x hx y (List.mem_cons_of_mem _ hy)⟩, fun h hh => R.cr h ?_⟩ hS hcv
     ·rw [hmem']
      simp only [List.mem_append, List.mem_cons]
      refine ⟨fun ⟨h1, h2⟩ => ?_, fun h => ⟨fun e => ?_, ?_⟩⟩
      ·rcases h2 with (h2 | h2 | h2) | h2
       ·exact .inl (.inl h2)
       ·exact absurd h2 h1
       ·exact .inl (.inr h2)
       ·exact .inr h2
      ·subst e
       rcases h with (h | h) | h
       ·exact hjp h
       ·exact n2.1 (List.mem_append.2 (.inl h))
       ·exact n2.1 (List.mem_append.2 (.inr h))
      ·rcases h with (h | h) | h
       ·exact .inl (.inl h)
       ·exact .inl (.inr (.inr h))
       ·exact .inr h
     ·rw [List.append_assoc, List.nodup_append]
      exact ⟨n1, n2.2, fun x hx y hy => n3 x hx y (List.mem_cons_of_mem _ hy)⟩
     ·simp only [List.mem_append, List.mem_cons] at hi ⊢
      rcases hi with (h | h) | h
      ·exact .inl (.inl h)
      ·exact .inl (.inr (.inr h))
      ·exact .inr h
     ·simp only [List.mem_append, List.mem_cons] at hh ⊢
      rcases hh with h | h
      ·exact .inl h
      ·exact .inr (.inr h)
   ·-- an operation that makes memory
    have hnd := R.nd
    rw [List.nodup_append] at hnd
    obtain ⟨n1, n2, n3⟩ := hnd
    have hjh : ∀ h ∈ hs, h ≠ j := fun h hh e => n3 h hh j hjt e
    have hready : j ∈ readyT md ops ts := by
     unfold readyT
     rw [List.mem_filter]
     refine ⟨hjt, ?_⟩
     rw [List.all_eq_true]
     intro u hu
     rw [ready_waits hj ((R.mem u).2 (List.mem_append.2 (.inr hu)))]
     rfl
    have hlen : (ts.erase j).length + 1 = ts.length := by
     have := List.length_erase_of_mem hjt
     have := List.length_pos_of_mem hjt
     omega
    have hme : ∀ x, x ∈ ts.erase j ↔ x ≠ j ∧ x ∈ ts := fun x => n2.mem_erase_iff
    have hcase : ts.length = 1 ∨ ∃ n, ts.length = n + 2 := by
     rcases Nat.lt_or_ge ts.length 2 with h | h
     ·exact .inl (by omega)
     ·exact .inr ⟨ts.length - 2, by omega⟩
    rcases hcase with hl1 | ⟨n, hl2⟩
    ·have hjl : j = ops.size - 1 := by
      obtain ⟨x, hx⟩ := List.length_eq_one_iff.1 hl1
      have h1 := R.last
      rw [hx, List.mem_singleton] at h1 hjt
      rw [h1, hjt]
     have hnil : hs = [] := by
      cases hs with
      | nil => rfl
      | cons h hs =>
       exfalso
       have h1 : h ∈ h :: hs := List.mem_cons_self
       have h2 := (R.mem h).2 (List.mem_append.2 (.inl h1))
       have h3 : h < ops.size - 1 := by
        have := R.lt h (List.mem_append.2 (.inl h1))
        have := hjh h h1
        omega
       exact tail_waits hsk hck (by omega) R.inv _ h rfl h3 h2 j (by omega) hj
     subst hnil
     obtain rfl : f = 0 := by rw [hl1] at hf; simpa using hf
     rw [hl1] at hc
     refine wpOp_mono (fun a' w' hq => ⟨?_, hq⟩) (hc j hready)
     refine List.eq_nil_iff_forall_not_mem.2 fun i hi => ?_
     have := (hmem' i).1 (mem_ready.1 hi).1
     obtain ⟨x, hx⟩ := List.length_eq_one_iff.1 hl1
     rw [hx, List.mem_singleton] at hjt
     rw [hx] at this
     simp [hjt] at this
    ·have hjn : j < ops.size - 1 := by
      have h1 := R.last
      have : j ≠ ops.size - 1 := fun e => by
       have hlen2 : 0 < (ts.erase j).length := by omega
       obtain ⟨x, hx⟩ := List.exists_mem_of_length_pos hlen2
       obtain ⟨x1, x2⟩ := (hme x).1 hx
       have h2 := (R.mem x).2 (List.mem_append.2 (.inr x2))
       have h3 : x < ops.size - 1 := by
        have := R.lt x (List.mem_append.2 (.inr x2))
        omega
       exact tail_waits hsk hck (by omega) R.inv _ x rfl h3 h2 j (by omega) hj
      omega
     have hc' := canonH_mono (L' := fun a' => wpOp P ops Q j (fun a' w' => S w' ∧ tailA P md ops Q S (n + 1) (ts.erase j) a' w') a' w) (fun a' h => by rw [hl2] at h; exact h j hready) hs a hc
     have h1 := canonH_push (K := fun a' w' => S w' ∧ tailA P md ops Q S (n + 1) (ts.erase j) a' w') hselS hoj hQ hs a (fun h hh => hapj h hh (R.cr h hh j hjt)) hc'
     cases f with
     | zero => exfalso; omega
     | succ f =>
      refine wpOp_mono (fun a' w' hk => ?_) h1
      obtain ⟨_, hS', _⟩ := canonH_some hs a' hk
      have hn1 : n + 1 = (ts.erase j).length := by omega
      refine wpAny_hu hsel hsk hck h0 hdn hQ f hs (ts.erase j) _ a' w' (by omega) ⟨R.inv.set hj hjn, fun i => ?_, ?_, fun i hi => R.lt i ?_, (hme _).2 ⟨by omega, R.last⟩, R.ap, fun h hh t ht => R.cr h hh t ((hme t).1 ht).2⟩ hS' (canonH_mono (fun _ h => hn1 ▸ h.2) hs a' hk)
      ·rw [hmem', List.mem_append, List.mem_append, hme]
       refine ⟨fun ⟨h1, h2⟩ => ?_, fun h => ⟨fun e => ?_, ?_⟩⟩
       ·rcases h2 with h2 | h2
        ·exact .inl h2
        ·exact .inr ⟨h1, h2⟩
       ·subst e
        rcases h with h | h
        ·exact hjh _ h rfl
        ·exact h.1 rfl
       ·rcases h with h | h
        ·exact .inl h
        ·exact .inr h.2
      ·rw [List.nodup_append]
       exact ⟨n1, n2.erase j, fun x hx y hy => n3 x hx y ((hme y).1 hy).2⟩
      ·rw [List.mem_append] at hi ⊢
       rcases hi with h | h
       ·exact .inl h
       ·exact .inr ((hme i).1 h).2
theorem wp_region_hu {id : Nat} {a : Act} {w : World} {l : List Oper} (hs ts : List Nat) (S : World → Prop) (hm : P.follows .mixedOrders = true) (hB : huB .any l.toArray hs ts = true)
  (hS : S w.drew) (h : canonH P l.toArray S (fun a' => tailA P .any l.toArray (NoPanic Q) S ts.length ts a' w.drew) hs a) : (Code.region id l.toArray true).wp P Q a w := by
 simp only [huB, Bool.and_eq_true, decide_eq_true_eq] at hB
 obtain ⟨⟨⟨⟨⟨⟨⟨⟨⟨⟨⟨b1, b2⟩, b3⟩, b4⟩, b5⟩, b6⟩, bc⟩, b8⟩, b9⟩, b10⟩, b11⟩, b12⟩ := hB
 refine wp_region_noPanic (wp_region_any hm ?_)
 rw [List.all_eq_true] at b9 b10
 have hlt : ∀ i ∈ hs ++ ts, i < l.toArray.size := fun i hi => by simpa using b9 i hi
 obtain ⟨f, hf⟩ : ∃ f, l.toArray.size = f + 1 := ⟨l.toArray.size - 1, by omega⟩
 have R : RemU .any l.toArray hs ts (Array.replicate l.toArray.size false) := by
  refine ⟨⟨by simp, fun j oj _ hl => (by rw [getD_replicate_false] at hl; cases hl), fun t _ ht => getD_in (by simpa using ht) (getD_replicate_false _ _)⟩, fun i => ⟨fun hi => ?_, fun hi => ?_⟩, b8, hlt, by simpa using b11, pairB_spec _ b6, fun h hh t ht => by unfold crossB at bc; rw [List.all_eq_true] at bc; have := bc h hh; rw [List.all_eq_true] at this; exact this t ht⟩
  ·rcases Nat.lt_or_ge i l.toArray.size with h | h
   ·simpa using b10 i (List.mem_range.2 h)
   ·rw [show (Array.replicate l.toArray.size false).getD i true = true by simp [Nat.not_lt.2 (by simpa using h)]] at hi; cases hi
  ·exact getD_in (by simpa using hlt i hi) (getD_replicate_false _ _)
 have := wpAny_hu (P := P) (Q := NoPanic Q) (S := S) b1 b2 b3 b4 b5 (fun _ _ _ _ _ h => h) f hs ts _ a w.drew (by omega) R hS h
 rw [← hf] at this
 exact this
theorem wpOp_of_list {t : Nat} {o : Oper} {a : Act} {w : World} {K : Act → World → Prop} (ho : ops[t]? = some o) (h : wpList P ops (Thn Q K) [o] a w) : wpOp P ops Q t K a w := by
 unfold wpOp
 simp only [ho]
 unfold wpList at h
 split
 ·rename_i hw
  rw [if_pos hw] at h
  rcases h with h | ⟨h1, b, w', h2⟩
  ·refine .inl ?_
   unfold Oper.wp at *
   generalize (execOp a.eval o).run P w = r at *
   cases r with
   | ok n w' => cases n <;> first | exact h | exact Calls.mono h (fun e w'' he => by cases e <;> exact he) | exact Rows.mono h (fun u w'' he => he)
   | halt x w' => cases x <;> exact h
  ·exact .inr ⟨h1, b, w', h2⟩
 ·rename_i hw
  rw [if_neg hw] at h
  exact h
theorem tailA_one {n t : Nat} {ts ts' : List Nat} {o : Oper} {a : Act} {w : World} (hr : readyT md ops ts = [t]) (he : ts.erase t = ts') (ho : ops[t]? = some o)
  (h : wpList P ops (Thn Q fun a' w' => S w' ∧ tailA P md ops Q S (n + 1) ts' a' w') [o] a w) : tailA P md ops Q S (n + 2) ts a w := by
 intro u hu
 rw [hr, List.mem_singleton] at hu
 subst hu
 rw [he]
 exact wpOp_of_list ho h
theorem tailA_two {n t t' : Nat} {ts ts1 ts2 : List Nat} {o o' : Oper} {a : Act} {w : World} (hr : readyT md ops ts = [t, t']) (he : ts.erase t = ts1) (he' : ts.erase t' = ts2) (ho : ops[t]? = some o) (ho' : ops[t']? = some o')
  (h : wpList P ops (Thn Q fun a' w' => S w' ∧ tailA P md ops Q S (n + 1) ts1 a' w') [o] a w) (h' : wpList P ops (Thn Q fun a' w' => S w' ∧ tailA P md ops Q S (n + 1) ts2 a' w') [o'] a w) : tailA P md ops Q S (n + 2) ts a w := by
 intro u hu
 rw [hr] at hu
 simp only [List.mem_cons, List.not_mem_nil, or_false] at hu
 rcases hu with rfl | rfl
 ·rw [he]; exact wpOp_of_list ho h
 ·rw [he']; exact wpOp_of_list ho' h'
theorem tailA_last {t : Nat} {ts : List Nat} {o : Oper} {a : Act} {w : World} (hr : readyT md ops ts = [t]) (ho : ops[t]? = some o) (h : wpList P ops Q [o] a w) : tailA P md ops Q S 1 ts a w := by
 intro u hu
 rw [hr, List.mem_singleton] at hu
 subst hu
 exact tailW_last (S := fun _ => True) ho h
end
end Go.Proofs.YtihhclhpjgeniaaGreatDoor
