/- Merged texts: Hv Hw O1 O2 O3 Cn Co Cx O4 Fo Fp Rw -/
import Derived.Test.YtihhclhpjgeniaaGreatDoorSB4
import Derived.Test.YtihhclhpjgeniaaGreatDoorSB5
import Derived.Test.YtihhclhpjgeniaaGreatDoorSB6
import Derived.Lib.AtoiAll
import Derived.Lib.IndexMore
import Derived.Lib.IndexLaws
import Derived.Lib.ItoaNum
namespace Go.Proofs.YtihhclhpjgeniaaGreatDoor
open Go.RowKit Go.Sort
section
variable {P : Program} {ops : Array Oper} {md : Region.Mode} {Q : Exit → Act → World → Prop} {S : World → Prop}
def YieldsG (P : Program) (ops : Array Oper) (S : World → Prop) (o : Oper) (v : Value) (a : Act) : Prop :=
 (Region.wanted o (yielded ops a.tmps) = true ∧ ∀ w, S w → o.quietAt P a (fun w' => Below w.heap.size w w') w v) ∨ (Region.wanted o (yielded ops a.tmps) = false ∧ v = undef)
theorem YieldsG.same {o : Oper} {v : Value} {a a' : Act} (hy : YieldsG P ops S o v a) (he : execOp a'.eval o = execOp a.eval o) (hw : Region.wanted o (yielded ops a'.tmps) = Region.wanted o (yielded ops a.tmps)) : YieldsG P ops S o v a' := by
 unfold YieldsG Oper.quietAt at *
 rw [he, hw]
 exact hy
theorem YieldsG.op {i : Nat} {o : Oper} {v : Value} {a : Act} (hi : ops[i]? = some o) (hy : YieldsG P ops S o v a) {K : Act → World → Prop} {w : World} (hS : S w) (h : ∀ w', Below w.heap.size w w' → K (a.put o.dst v) w') : wpOp P ops Q i K a w := by
 unfold wpOp
 simp only [hi]
 rcases hy with ⟨hw, hv⟩ | ⟨hw, rfl⟩
 ·rw [if_pos hw]
  refine .inl ?_
  have h3 := hv w hS
  unfold Oper.quietAt at h3
  unfold Oper.wp
  generalize (execOp a.eval o).run P w = r at h3
  cases r with
  | halt x w' => simp only [Oper.quietUpon] at h3
  | ok n w' =>
   cases n with
   | value u =>
    obtain ⟨e1, e2⟩ := h3
    subst e1 e2
    exact h _ (Below.refl _ _)
   | skip =>
    obtain ⟨e1, e2⟩ := h3
    subst e1 e2
    exact h _ (Below.refl _ _)
   | enter f args =>
    obtain ⟨e1, hc⟩ := h3
    subst e1
    exact hc.mono fun e w'' ⟨he, hb⟩ => by subst he; exact h _ hb
   | _ => simp only [Oper.quietUpon] at h3
 ·rw [hw]
  simp only [Bool.false_eq_true, if_false]
  exact h _ (Below.refl _ _)
theorem wpOp_where {j : Nat} {oj : Oper} {K : Act → World → Prop} {a : Act} {w : World} (hj : ops[j]? = some oj) (h : wpOp P ops Q j K a w) :
  wpOp P ops Q j (fun a' w' => (∃ u d, a' = ({ a with defers := d } : Act).put oj.dst u) ∧ K a' w') a w := by
 unfold wpOp at *
 simp only [hj] at *
 by_cases hw : Region.wanted oj (yielded ops a.tmps) = true
 ·rw [if_pos hw] at h ⊢
  rcases h with h | h
  case inr => exact .inr h
  refine .inl ?_
  unfold Oper.wp at *
  generalize (execOp a.eval oj).run P w = r at *
  cases r with
  | ok n w' =>
   cases n with
   | value u => exact ⟨⟨u, a.defers, rfl⟩, h⟩
   | skip => exact ⟨⟨undef, a.defers, rfl⟩, h⟩
   | defer d => exact ⟨⟨undef, _, rfl⟩, h⟩
   | enter f args =>
    exact Calls.mono h fun e w'' he => by
     cases e with
     | returned u => exact ⟨⟨u, a.defers, rfl⟩, he⟩
     | panicked c => exact he
     | outgrown => exact he
   | row r args => exact Rows.mono h fun u w'' he => ⟨⟨u, a.defers, rfl⟩, he⟩
   | _ => exact h
  | halt x w' => cases x <;> exact h
 ·rw [if_neg hw] at h ⊢
  exact ⟨⟨undef, a.defers, rfl⟩, h⟩
theorem wpOp_putG {j : Nat} {oi oj : Oper} {v : Value} (hj : ops[j]? = some oj) (hap : oi.apart ops oj = true) (hsi : ∀ cs b, oi.op ≠ .select cs b) (hsj : ∀ cs b, oj.op ≠ .select cs b)
  (hQ : ∀ c a w, Q (.panic c) (a.put oi.dst v) w → Q (.panic c) a w) {K : Act → World → Prop} {a : Act} {w : World} (hy : YieldsG P ops S oi v a) (h : wpOp P ops Q j K (a.put oi.dst v) w) :
  wpOp P ops Q j (fun a' w' => YieldsG P ops S oi v a' ∧ K (a'.put oi.dst v) w') a w := by
 have hF : YieldsIf P ops (fun _ => False) oi v a := hy.imp (fun ⟨hw, _⟩ => ⟨hw, fun _ h => h.elim⟩) id
 obtain ⟨_, _, h3⟩ := Oper.apart_spec hap
 refine wpOp_mono (fun a' w' ⟨⟨u, d, e⟩, _, hk⟩ => ⟨?_, hk⟩) (wpOp_where hj (wpOp_putIf hj hap hsi hsj hQ hF h))
 subst e
 have hd : YieldsG P ops S oi v ({ a with defers := d } : Act) := hy.same rfl rfl
 exact hd.same (execOp_put oi hsi _ oj.dst u h3) (wanted_put oi _ oj.dst u h3)
def canonG (P : Program) (ops : Array Oper) (S : World → Prop) (L : Act → Prop) : List Nat → Act → Prop
 | [], a => L a
 | i :: hs, a => ∃ o v, ops[i]? = some o ∧ YieldsG P ops S o v a ∧ canonG P ops S L hs (a.put o.dst v)
theorem canonG_some {L : Act → Prop} : ∀ (hs : List Nat) (a : Act), canonG P ops S L hs a → ∃ a', L a'
 | [], a, h => ⟨a, h⟩
 | _ :: hs, _, ⟨_, _, _, _, h⟩ => canonG_some hs _ h
theorem canonG_mono {L L' : Act → Prop} (hl : ∀ a, L a → L' a) : ∀ (hs : List Nat) (a : Act), canonG P ops S L hs a → canonG P ops S L' hs a
 | [], a, h => hl a h
 | _ :: hs, _, ⟨o, v, ho, hy, h⟩ => ⟨o, v, ho, hy, canonG_mono hl hs _ h⟩
theorem canonG_move {L : Act → Prop} {j : Nat} {oj : Oper} {q : List Nat} (hsel : ∀ (j : Nat) (o : Oper) cs b, ops[j]? = some o → o.op ≠ .select cs b) (hj : ops[j]? = some oj) :
  ∀ (p : List Nat) (a : Act), (∀ h ∈ p, ∀ oh, ops[h]? = some oh → oh.apart ops oj = true) → canonG P ops S L (p ++ j :: q) a → ∃ v, YieldsG P ops S oj v a ∧ canonG P ops S L (p ++ q) (a.put oj.dst v)
 | [], a, _, ⟨o, v, ho, hy, hc⟩ => by
  obtain rfl : o = oj := Option.some.inj (ho.symm.trans hj)
  exact ⟨v, hy, hc⟩
 | h :: p, a, hap, ⟨o, u, ho, hy, hc⟩ => by
  obtain ⟨v, hyj, hcj⟩ := canonG_move hsel hj p (a.put o.dst u) (fun k hk => hap k (List.mem_cons_of_mem _ hk)) hc
  obtain ⟨h1, h2, h3⟩ := Oper.apart_spec (hap h List.mem_cons_self o ho)
  refine ⟨v, hyj.same (execOp_put oj (fun cs b => hsel j oj cs b hj) a o.dst u h1).symm (wanted_put oj a o.dst u h1).symm, o, u, ho, hy.same (execOp_put o (fun cs b => hsel h o cs b ho) a oj.dst v h3) (wanted_put o a oj.dst v h3), ?_⟩
  rw [← Act.put_comm a u v h2]
  exact hcj
theorem canonG_push {t : Nat} {ot : Oper} (hsel : ∀ (j : Nat) (o : Oper) cs b, ops[j]? = some o → o.op ≠ .select cs b) (ht : ops[t]? = some ot)
  (hQ : ∀ c (a : Act) d v w, Q (.panic c) (a.put d v) w → Q (.panic c) a w) {K : Act → World → Prop} {w : World} :
  ∀ (hs : List Nat) (a : Act), (∀ h ∈ hs, ∀ oh, ops[h]? = some oh → oh.apart ops ot = true) → canonG P ops S (fun a' => wpOp P ops Q t K a' w) hs a → wpOp P ops Q t (fun a' w' => canonG P ops S (fun a'' => K a'' w') hs a') a w
 | [], a, _, h => h
 | h :: hs, a, hap, ⟨o, v, ho, hy, hc⟩ => by
  have := canonG_push hsel ht hQ hs (a.put o.dst v) (fun k hk => hap k (List.mem_cons_of_mem _ hk)) hc
  exact wpOp_mono (fun a' w' ⟨hy', hk⟩ => ⟨o, v, ho, hy', hk⟩) (wpOp_putG ht (hap h List.mem_cons_self o ho) (fun cs b => hsel h o cs b ho) (fun cs b => hsel t ot cs b ht) (fun c a w => hQ c a _ _ w) hy this)
def tailG (P : Program) (md : Region.Mode) (ops : Array Oper) (Q : Exit → Act → World → Prop) (S : World → Prop) : Nat → List Nat → Act → World → Prop
 | 0, _, a, w => ∀ W, Below w.heap.size w W → Q .normal a W
 | 1, ts, a, w => ∀ W, Below w.heap.size w W → ∀ t ∈ readyT md ops ts, wpOp P ops Q t (fun a' w' => Q .normal a' w') a W
 | n + 2, ts, a, w => ∀ W, Below w.heap.size w W → ∀ t ∈ readyT md ops ts, wpOp P ops Q t (fun a' w' => S w' ∧ tailG P md ops Q S (n + 1) (ts.erase t) a' w') a W
theorem tailG_grow {a : Act} {ts : List Nat} {w w' : World} (hb : Below w.heap.size w w') : ∀ n, tailG P md ops Q S n ts a w → tailG P md ops Q S n ts a w'
 | 0, h => fun W hW => h W (below_trans' hb hW)
 | 1, h => fun W hW => h W (below_trans' hb hW)
 | _ + 2, h => fun W hW => h W (below_trans' hb hW)
theorem wpAny_hv (hsel : Region.noSelect ops = true) (hsk : Region.sinkB md ops (ops.size - 1) = true) (hck : Region.chainB md ops (ops.size - 1) = true) (h0 : 0 < ops.size) (hdn : downB md ops = true)
  (hQ : ∀ c (a : Act) d v w, Q (.panic c) (a.put d v) w → Q (.panic c) a w) (hSg : ∀ w w', S w → Below w.heap.size w w' → S w') :
  ∀ (f : Nat) (hs ts : List Nat) (listed : Array Bool) (a : Act) (w : World), f + 1 = hs.length + ts.length → RemU md ops hs ts listed → S w → canonG P ops S (fun a' => tailG P md ops Q S ts.length ts a' w) hs a → wpAny P md ops Q (f + 1) listed a w
 | f, hs, ts, listed, a, w, hf, R, hS, hc => by
  have hselS := Region.noSelect_spec hsel
  refine ⟨fun hr => ?_, fun j hj => ?_⟩
  ·exfalso
   -- the least of what is to come is ready
   have hlast : ops.size - 1 ∈ hs ++ ts := List.mem_append.2 (.inr R.last)
   obtain ⟨m, hmin, hless⟩ := least_of (p := fun i => listed.getD i true) _ ((R.mem _).2 hlast)
   have hlt := R.lt _ ((R.mem _).1 hmin)
   have : m ∈ Region.ready md ops listed := by
    rw [mem_ready]
    refine ⟨hmin, ops[m], by simp [hlt], fun e he hb => ?_⟩
    unfold downB at hdn
    rw [List.all_eq_true] at hdn
    have h1 := hdn m (List.mem_range.2 hlt)
    rw [Array.getElem?_eq_getElem hlt] at h1
    simp only [Option.map_some, Option.getD_some, Array.all_eq_true_iff_forall_mem] at h1
    have h2 := h1 e he
    rw [hb] at h2
    have h3 : e.on < m := by simpa using h2
    have h4 : listed.getD e.on true = true := hless e.on h3
    have h5 : e.on < listed.size := by rw [R.inv.size]; omega
    simp [h5] at h4 ⊢
    exact h4
   rw [hr] at this
   cases this
  ·obtain ⟨hun, oj, hoj, hall⟩ := mem_ready.1 hj
   have hjlt : j < ops.size := (Array.getElem?_eq_some_iff.1 hoj).1
   have hapj : ∀ h ∈ hs, ap1 md ops h j = true → ∀ oh, ops[h]? = some oh → oh.apart ops oj = true := fun h hh h1 oh hoh =>
    ap1_spec h1 hoh hoj (ready_waits hj ((R.mem h).2 (List.mem_append.2 (.inl hh))))
   have hmem' : ∀ i, (listed.setIfInBounds j true).getD i true = false ↔ i ≠ j ∧ i ∈ hs ++ ts := fun i => by
    by_cases hij : i = j
    ·subst hij
     simp only [ne_eq, not_true_eq_false, false_and, iff_false]
     rw [getD_set_self (by rw [R.inv.size]; exact hjlt)]; simp
    ·rw [getD_set_ne true (Ne.symm hij), R.mem]; simp [hij]
   rcases List.mem_append.1 ((R.mem j).1 hun) with hjh | hjt
   ·obtain ⟨p, q, rfl⟩ := List.append_of_mem hjh
    have hnd := R.nd
    rw [List.append_assoc, List.cons_append, List.nodup_append] at hnd
    obtain ⟨n1, n2, n3⟩ := hnd
    rw [List.nodup_cons] at n2
    have apq := List.pairwise_append.1 R.ap
    have hjp : j ∉ p := fun h => n3 j h j List.mem_cons_self rfl
    obtain ⟨v, hy, hcv⟩ := canonG_move hselS hoj p a (fun h hh => hapj h (by simp [hh]) (apq.2.2 h hh j List.mem_cons_self)) hc
    have hjn : j < ops.size - 1 := by
     have h1 : ops.size - 1 ∈ ts := R.last
     have : j ≠ ops.size - 1 := fun e => n2.1 (List.mem_append.2 (.inr (e ▸ h1)))
     omega
    refine hy.op hoj hS fun w' hgr => ?_
    cases f with
    | zero =>
     exfalso
     have h1 : 0 < ts.length := List.length_pos_of_mem R.last
     simp at hf
     omega
    | succ f =>
     refine wpAny_hv hsel hsk hck h0 hdn hQ hSg f (p ++ q) ts _ _ w' (by simp at hf ⊢; omega) ⟨R.inv.set hj hjn, fun i => ?_, ?_, fun i hi => R.lt i ?_, R.last, List.pairwise_append.2 ⟨apq.1, (List.pairwise_cons.1 apq.2.1).2, fun x hx y hy => apq.2.2 x hx y (List.mem_cons_of_mem _ hy)⟩, fun h hh => R.cr h ?_⟩ (hSg w w' hS hgr) (canonG_mono (fun _ h => tailG_grow hgr _ h) _ _ hcv)
     ·rw [hmem']
      simp only [List.mem_append, List.mem_cons]
      refine ⟨fun ⟨h1, h2⟩ => ?_, fun h => ⟨fun e => ?_, ?_⟩⟩
      ·rcases h2 with (h2 | h2 | h2) | h2
       ·exact .inl (.inl h2)
       ·exact absurd h2 h1
       ·exact .inl (.inr h2)
       ·exact .inr h2
      ·subst e
       rcases h with (h | h) | h
       ·exact hjp h
       ·exact n2.1 (List.mem_append.2 (.inl h))
       ·exact n2.1 (List.mem_append.2 (.inr h))
      ·rcases h with (h | h) | h
       ·exact .inl (.inl h)
       ·exact .inl (.inr (.inr h))
       ·exact .inr h
     ·rw [List.append_assoc, List.nodup_append]
      exact ⟨n1, n2.2, fun x hx y hy => n3 x hx y (List.mem_cons_of_mem _ hy)⟩
     ·simp only [List.mem_append, List.mem_cons] at hi ⊢
      rcases hi with (h | h) | h
      ·exact .inl (.inl h)
      ·exact .inl (.inr (.inr h))
      ·exact .inr h
     ·simp only [List.mem_append, List.mem_cons] at hh ⊢
      rcases hh with h | h
      ·exact .inl h
      ·exact .inr (.inr h)
   ·-- an operation that makes memory
    have hnd := R.nd
    rw [List.nodup_append] at hnd
    obtain ⟨n1, n2, n3⟩ := hnd
    have hjh : ∀ h ∈ hs, h ≠ j := fun h hh e => n3 h hh j hjt e
    have hready : j ∈ readyT md ops ts := by
     unfold readyT
     rw [List.mem_filter]
     refine ⟨hjt, ?_⟩
     rw [List.all_eq_true]
     intro u hu
     rw [ready_waits hj ((R.mem u).2 (List.mem_append.2 (.inr hu)))]
     rfl
    have hlen : (ts.erase j).length + 1 = ts.length := by
     have := List.length_erase_of_mem hjt
     have := List.length_pos_of_mem hjt
     omega
    have hme : ∀ x, x ∈ ts.erase j ↔ x ≠ j ∧ x ∈ ts := fun x => n2.mem_erase_iff
    have hcase : ts.length = 1 ∨ ∃ n, ts.length = n + 2 := by
     rcases Nat.lt_or_ge ts.length 2 with h | h
     ·exact .inl (by omega)
     ·exact .inr ⟨ts.length - 2, by omega⟩
    rcases hcase with hl1 | ⟨n, hl2⟩
    ·have hjl : j = ops.size - 1 := by
      obtain ⟨x, hx⟩ := List.length_eq_one_iff.1 hl1
      have h1 := R.last
      rw [hx, List.mem_singleton] at h1 hjt
      rw [h1, hjt]
     have hnil : hs = [] := by
      cases hs with
      | nil => rfl
      | cons h hs =>
       exfalso
       have h1 : h ∈ h :: hs := List.mem_cons_self
       have h2 := (R.mem h).2 (List.mem_append.2 (.inl h1))
       have h3 : h < ops.size - 1 := by
        have := R.lt h (List.mem_append.2 (.inl h1))
        have := hjh h h1
        omega
       exact tail_waits hsk hck (by omega) R.inv _ h rfl h3 h2 j (by omega) hj
     subst hnil
     obtain rfl : f = 0 := by rw [hl1] at hf; simpa using hf
     rw [hl1] at hc
     refine wpOp_mono (fun a' w' hq => ⟨?_, hq⟩) (hc w (Below.refl _ _) j hready)
     refine List.eq_nil_iff_forall_not_mem.2 fun i hi => ?_
     have := (hmem' i).1 (mem_ready.1 hi).1
     obtain ⟨x, hx⟩ := List.length_eq_one_iff.1 hl1
     rw [hx, List.mem_singleton] at hjt
     rw [hx] at this
     simp [hjt] at this
    ·have hjn : j < ops.size - 1 := by
      have h1 := R.last
      have : j ≠ ops.size - 1 := fun e => by
       have hlen2 : 0 < (ts.erase j).length := by omega
       obtain ⟨x, hx⟩ := List.exists_mem_of_length_pos hlen2
       obtain ⟨x1, x2⟩ := (hme x).1 hx
       have h2 := (R.mem x).2 (List.mem_append.2 (.inr x2))
       have h3 : x < ops.size - 1 := by
        have := R.lt x (List.mem_append.2 (.inr x2))
        omega
       exact tail_waits hsk hck (by omega) R.inv _ x rfl h3 h2 j (by omega) hj
      omega
     have hc' := canonG_mono (L' := fun a' => wpOp P ops Q j (fun a' w' => S w' ∧ tailG P md ops Q S (n + 1) (ts.erase j) a' w') a' w) (fun a' h => by rw [hl2] at h; exact h w (Below.refl _ _) j hready) hs a hc
     have h1 := canonG_push (K := fun a' w' => S w' ∧ tailG P md ops Q S (n + 1) (ts.erase j) a' w') hselS hoj hQ hs a (fun h hh => hapj h hh (R.cr h hh j hjt)) hc'
     cases f with
     | zero => exfalso; omega
     | succ f =>
      refine wpOp_mono (fun a' w' hk => ?_) h1
      obtain ⟨_, hS', _⟩ := canonG_some hs a' hk
      have hn1 : n + 1 = (ts.erase j).length := by omega
      refine wpAny_hv hsel hsk hck h0 hdn hQ hSg f hs (ts.erase j) _ a' w' (by omega) ⟨R.inv.set hj hjn, fun i => ?_, ?_, fun i hi => R.lt i ?_, (hme _).2 ⟨by omega, R.last⟩, R.ap, fun h hh t ht => R.cr h hh t ((hme t).1 ht).2⟩ hS' (canonG_mono (fun _ h => hn1 ▸ h.2) hs a' hk)
      ·rw [hmem', List.mem_append, List.mem_append, hme]
       refine ⟨fun ⟨h1, h2⟩ => ?_, fun h => ⟨fun e => ?_, ?_⟩⟩
       ·rcases h2 with h2 | h2
        ·exact .inl h2
        ·exact .inr ⟨h1, h2⟩
       ·subst e
        rcases h with h | h
        ·exact hjh _ h rfl
        ·exact h.1 rfl
       ·rcases h with h | h
        ·exact .inl h
        ·exact .inr h.2
      ·rw [List.nodup_append]
       exact ⟨n1, n2.erase j, fun x hx y hy => n3 x hx y ((hme y).1 hy).2⟩
      ·rw [List.mem_append] at hi ⊢
       rcases hi with h | h
       ·exact .inl h
       ·exact .inr ((hme i).1 h).2
theorem wp_region_hv {id : Nat} {a : Act} {w : World} {l : List Oper} (hs ts : List Nat) (S : World → Prop) (hm : P.follows .mixedOrders = true) (hB : huB .any l.toArray hs ts = true)
  (hSg : ∀ w w', S w → Below w.heap.size w w' → S w') (hS : S w.drew) (h : canonG P l.toArray S (fun a' => tailG P .any l.toArray (NoPanic Q) S ts.length ts a' w.drew) hs a) : (Code.region id l.toArray true).wp P Q a w := by
 simp only [huB, Bool.and_eq_true, decide_eq_true_eq] at hB
 obtain ⟨⟨⟨⟨⟨⟨⟨⟨⟨⟨⟨b1, b2⟩, b3⟩, b4⟩, b5⟩, b6⟩, bc⟩, b8⟩, b9⟩, b10⟩, b11⟩, b12⟩ := hB
 refine wp_region_noPanic (wp_region_any hm ?_)
 rw [List.all_eq_true] at b9 b10
 have hlt : ∀ i ∈ hs ++ ts, i < l.toArray.size := fun i hi => by simpa using b9 i hi
 obtain ⟨f, hf⟩ : ∃ f, l.toArray.size = f + 1 := ⟨l.toArray.size - 1, by omega⟩
 have R : RemU .any l.toArray hs ts (Array.replicate l.toArray.size false) := by
  refine ⟨⟨by simp, fun j oj _ hl => (by rw [getD_replicate_false] at hl; cases hl), fun t _ ht => getD_in (by simpa using ht) (getD_replicate_false _ _)⟩, fun i => ⟨fun hi => ?_, fun hi => ?_⟩, b8, hlt, by simpa using b11, pairB_spec _ b6, fun h hh t ht => by unfold crossB at bc; rw [List.all_eq_true] at bc; have := bc h hh; rw [List.all_eq_true] at this; exact this t ht⟩
  ·rcases Nat.lt_or_ge i l.toArray.size with h | h
   ·simpa using b10 i (List.mem_range.2 h)
   ·rw [show (Array.replicate l.toArray.size false).getD i true = true by simp [Nat.not_lt.2 (by simpa using h)]] at hi; cases hi
  ·exact getD_in (by simpa using hlt i hi) (getD_replicate_false _ _)
 have := wpAny_hv (P := P) (Q := NoPanic Q) (S := S) b1 b2 b3 b4 b5 (fun _ _ _ _ _ h => h) hSg f hs ts _ a w.drew (by omega) R hS h
 rw [← hf] at this
 exact this
theorem tailG_one {n t : Nat} {ts ts' : List Nat} {o : Oper} {a : Act} {w : World} (hr : readyT md ops ts = [t]) (he : ts.erase t = ts') (ho : ops[t]? = some o)
  (h : ∀ W, Below w.heap.size w W → wpList P ops (Thn Q fun a' w' => S w' ∧ tailG P md ops Q S (n + 1) ts' a' w') [o] a W) : tailG P md ops Q S (n + 2) ts a w := by
 intro W hW u hu
 rw [hr, List.mem_singleton] at hu
 subst hu
 rw [he]
 exact wpOp_of_list ho (h W hW)
theorem tailG_two {n t t' : Nat} {ts ts1 ts2 : List Nat} {o o' : Oper} {a : Act} {w : World} (hr : readyT md ops ts = [t, t']) (he : ts.erase t = ts1) (he' : ts.erase t' = ts2) (ho : ops[t]? = some o) (ho' : ops[t']? = some o')
  (h : ∀ W, Below w.heap.size w W → wpList P ops (Thn Q fun a' w' => S w' ∧ tailG P md ops Q S (n + 1) ts1 a' w') [o] a W) (h' : ∀ W, Below w.heap.size w W → wpList P ops (Thn Q fun a' w' => S w' ∧ tailG P md ops Q S (n + 1) ts2 a' w') [o'] a W) : tailG P md ops Q S (n + 2) ts a w := by
 intro W hW u hu
 rw [hr] at hu
 simp only [List.mem_cons, List.not_mem_nil, or_false] at hu
 rcases hu with rfl | rfl
 ·rw [he]; exact wpOp_of_list ho (h W hW)
 ·rw [he']; exact wpOp_of_list ho' (h' W hW)
theorem tailG_last {t : Nat} {ts : List Nat} {o : Oper} {a : Act} {w : World} (hr : readyT md ops ts = [t]) (ho : ops[t]? = some o) (h : ∀ W, Below w.heap.size w W → wpList P ops Q [o] a W) : tailG P md ops Q S 1 ts a w := by
 intro W hW u hu
 rw [hr, List.mem_singleton] at hu
 subst hu
 exact tailW_last (S := fun _ => True) ho (h W hW)
theorem canonG_read {L : Act → Prop} {i : Nat} {o : Oper} {v : Value} {hs : List Nat} {a : Act} (ho : ops[i]? = some o) (hw : Region.wanted o (yielded ops a.tmps) = true)
  (h : ∀ w, S w → (execOp a.eval o).run P w = .ok (.value v) w) (hr : canonG P ops S L hs (a.put o.dst v)) : canonG P ops S L (i :: hs) a :=
 ⟨o, v, ho, .inl ⟨hw, fun w hS => by unfold Oper.quietAt; rw [h w hS]; exact ⟨rfl, rfl⟩⟩, hr⟩
theorem canonG_call {L : Act → Prop} {i : Nat} {o : Oper} {v : Value} {hs : List Nat} {a : Act} {f : FuncId} {args : Array Value} (ho : ops[i]? = some o) (hw : Region.wanted o (yielded ops a.tmps) = true)
  (h : ∀ w, S w → (execOp a.eval o).run P w = .ok (.enter f args) w) (hc : ∀ w, S w → Calls P f args w fun e w' => e = .returned v ∧ Below w.heap.size w w') (hr : canonG P ops S L hs (a.put o.dst v)) : canonG P ops S L (i :: hs) a :=
 ⟨o, v, ho, .inl ⟨hw, fun w hS => by unfold Oper.quietAt; rw [h w hS]; exact ⟨rfl, hc w hS⟩⟩, hr⟩
theorem canonG_nil {L : Act → Prop} {a : Act} (h : L a) : canonG P ops S L [] a := h
end
end Go.Proofs.YtihhclhpjgeniaaGreatDoor
namespace Go.Proofs.YtihhclhpjgeniaaGreatDoor
open Go.RowKit Go.Sort
section
variable {P : Program} {ops : Array Oper} {md : Region.Mode} {Q : Exit → Act → World → Prop} {S : World → Prop} {Rl : World → World → Prop}
end
end Go.Proofs.YtihhclhpjgeniaaGreatDoor
namespace Go.Proofs.YtihhclhpjgeniaaGreatDoor
open Go.RowKit Go.Sort
def age (e : Ent) : Int := e.2.2.1.1 + e.2.2.1.2.1 + e.2.2.1.2.2
abbrev ebox (e : Ent) : Obj := .cells #[.int .i64 e.1, .int .i64 e.2.1, .int .i64 e.2.2.1.1, .int .i64 e.2.2.1.2.1, .int .i64 e.2.2.1.2.2, .string e.2.2.2] 47
end Go.Proofs.YtihhclhpjgeniaaGreatDoor
namespace Go.Proofs.YtihhclhpjgeniaaGreatDoor
open Go.RowKit Go.Sort Go.Shelf
def aheadE (x y : Ent) : Prop := age x < age y ∨ (age x = age y ∧ x.1 < y.1)
instance (x y : Ent) : Decidable (aheadE x y) := inferInstanceAs (Decidable (_ ∨ _))
section
variable {α : Type} [Inhabited α] {enc : α → Value}
end
end Go.Proofs.YtihhclhpjgeniaaGreatDoor
namespace Go.Proofs.YtihhclhpjgeniaaGreatDoor
open Go.RowKit Go.Sort
theorem info3b : (Tryz.prog.info? 3).map (fun i => (i.zero, i.size, i.bytes)) = some (some (.int .i64 0), 1, 8) := by kernel_rfl
theorem madeCells_zero (n : Nat) : (madeCells #[.int .i64 0] n).toList = ints (List.replicate n 0) := by
 apply List.ext_getElem?
 intro i
 simp [madeCells, ints, List.getElem?_replicate]
 by_cases h : i < n <;> simp [h, Nat.mod_one]
theorem mk46 (n : Nat) (hn : n ≤ 1000000) (w : World) : (Instr.makeSlice 54 (.int .i64 (n : Int)) (.int .i64 (n : Int))).run Tryz.prog w = .ok (.slice (some ⟨w.heap.size, 0, none⟩) n n) (w.alloc (.cells (madeCells #[.int .i64 0] n) 3)) := by
 obtain ⟨i0, hi, hz0, hz1, hz2⟩ := info_parts info3b
 have h := run_make (P := Tryz.prog) w 54 3 i0 _ Tryz.underlying54 hi hz0 .i64 .i64 n n (by omega) (Int.le_refl _) (by rw [hz2]; omega) (by omega)
 rw [hz1, Int.toNat_natCast, Nat.mul_one] at h
 exact h
theorem ix46 {A : Option Addr} {ad : Addr} {n c k : Nat} (h : A = some ad) (hk : k < n) (w : World) : (Instr.indexAt 54 (.slice A n c) (.int .i64 (k : Int))).run Tryz.prog w = .ok (.pointer (some (ad.add k))) w := by
 subst h
 have h0 : (0 : Int) ≤ (k : Int) ∧ (k : Int) < (n : Int) := by omega
 have hs : (sizeOf (Tryz.prog.elem 54)).run Tryz.prog w = .ok 1 w := by kernel_rfl
 rw [run_indexAt_slice w 54 ad n c .i64 k (by kernel_rfl), if_pos h0, hs]
 simp [Result.andThen]
end Go.Proofs.YtihhclhpjgeniaaGreatDoor
namespace Go.Proofs.YtihhclhpjgeniaaGreatDoor
open Go.RowKit Go.Sort
instance : DecidableEq ByteArray := fun a b => decidable_of_iff (a.data = b.data) ⟨fun h => by cases a; cases b; simp at h; subst h; rfl, fun h => h ▸ rfl⟩
instance : DecidableEq Ent := by unfold Ent; infer_instance
instance (e : Ent) (l : List Ent) : Decidable (e ∈ l) := decidable_of_iff (∃ x ∈ l, x = e) ⟨fun ⟨_, h, h2⟩ => h2 ▸ h, fun h => ⟨e, h, rfl⟩⟩
theorem wrong_not {es : List Ent} {e : Ent} (h : ¬ wrong es e) :
  (∀ p : Nat, p < 3 → ((p : Int) = e.1 → e.sn p = e.2.1 - 1) ∧ 0 ≤ e.sn p ∧ e.sn p ≤ clk es p) ∧ ∀ f ∈ es, sawE e f = true → ∀ p : Nat, p < 3 → f.sn p ≤ e.sn p := by
 unfold wrong at h
 constructor
 ·intro p hp
  have : ¬ badP es e p := fun hb => h (.inl ⟨p, hp, hb⟩)
  unfold badP at this
  omega
 ·intro f hf hs p hp
  have : ¬ e.sn p < f.sn p := fun hlt => h (.inr ⟨f, hf, hs, p, hp, hlt⟩)
  omega
theorem wrong_intro {es : List Ent} {e : Ent} (h1 : ∀ p : Nat, p < 3 → ((p : Int) = e.1 → e.sn p = e.2.1 - 1) ∧ 0 ≤ e.sn p ∧ e.sn p ≤ clk es p) (h2 : ∀ f ∈ es, sawE e f = true → ∀ p : Nat, p < 3 → f.sn p ≤ e.sn p) : ¬ wrong es e := by
 rintro (⟨p, hp, hb⟩ | ⟨f, hf, hs, p, hp, hlt⟩)
 ·have := h1 p hp
  unfold badP at hb
  omega
 ·have := h2 f hf hs p hp
  omega
theorem sawE_iff {e f : Ent} : sawE e f = true ↔ f.2.1 ≤ e.sn f.1 := by unfold sawE; rw [decide_eq_true_eq]
section
variable {a b c x : List Ent}
theorem Card.sn (h : Card c) {e : Ent} (he : e ∈ c) {p : Nat} (hp : p < 3) : 0 ≤ e.sn p ∧ e.sn p ≤ clk c p := ((wrong_not (h.saw e he)).1 p hp).2
theorem Card.up (h : Card c) {e f : Ent} (he : e ∈ c) (hf : f ∈ c) (hs : sawE e f = true) {p : Nat} (hp : p < 3) : f.sn p ≤ e.sn p := (wrong_not (h.saw e he)).2 f hf hs p hp
theorem Card.sorted (h : Card c) : c.Pairwise keyLt := Ord_sorted h.ord
def noPart (a b : List Ent) : Prop := ∀ e ∈ a, ∀ f ∈ b, e.1 = f.1 → e.2.1 = f.2.1 → e = f
instance (a b : List Ent) : Decidable (noPart a b) := by unfold noPart; infer_instance
def ofP (c : List Ent) (p : Int) : List Ent := c.filter fun e => decide (e.1 = p)
theorem mem_ofP {c : List Ent} {p : Int} {e : Ent} : e ∈ ofP c p ↔ e ∈ c ∧ e.1 = p := by unfold ofP; rw [List.mem_filter, decide_eq_true_eq]
theorem card_pl (h : Card c) {e : Ent} (he : e ∈ c) : e.1 = 0 ∨ e.1 = 1 ∨ e.1 = 2 := by have := h.txt e he; unfold okT at this; omega
theorem three_sorted {l0 l1 l2 : List Ent} (h0 : l0.Pairwise keyLt) (h1 : l1.Pairwise keyLt) (h2 : l2.Pairwise keyLt) (p0 : ∀ e ∈ l0, e.1 = 0) (p1 : ∀ e ∈ l1, e.1 = 1) (p2 : ∀ e ∈ l2, e.1 = 2) : (l0 ++ l1 ++ l2).Pairwise keyLt := by
 rw [List.pairwise_append, List.pairwise_append]
 refine ⟨⟨h0, h1, fun x hx y hy => ?_⟩, h2, fun x hx y hy => ?_⟩
 ·have := p0 x hx; have := p1 y hy; unfold keyLt; omega
 ·have := p2 y hy
  rcases List.mem_append.1 hx with hx | hx
  ·have := p0 x hx; unfold keyLt; omega
  ·have := p1 x hx; unfold keyLt; omega
end
end Go.Proofs.YtihhclhpjgeniaaGreatDoor
namespace Go.Proofs.YtihhclhpjgeniaaGreatDoor
open Go.RowKit Go.Sort
section
variable {a b c x : List Ent}
def newE (c : List Ent) (p : Int) (t : ByteArray) : Ent := (p, (clk c p : Int) + 1, ((clk c 0 : Nat), (clk c 1 : Nat), (clk c 2 : Nat)), t)
def addL (c : List Ent) (p : Int) (t : ByteArray) (q : Int) : List Ent := ofP c q ++ if q = p then [newE c p t] else []
def addR (c : List Ent) (p : Int) (t : ByteArray) : List Ent := addL c p t 0 ++ addL c p t 1 ++ addL c p t 2
def addE (c : List Ent) (p : Int) (t : ByteArray) : Int := if val c ≠ 0 then val c else if p < 0 ∨ 2 < p ∨ right t = false then 1 else if 60 ≤ c.length then 4 else 0
theorem newE_sn (c : List Ent) (p : Int) (t : ByteArray) {q : Nat} (hq : q < 3) : (newE c p t).sn q = (clk c q : Nat) := by
 rcases (show q = 0 ∨ q = 1 ∨ q = 2 by omega) with rfl | rfl | rfl <;> rfl
theorem mem_addL {p : Int} {t : ByteArray} {q : Int} {e : Ent} : e ∈ addL c p t q ↔ (e ∈ c ∧ e.1 = q) ∨ (q = p ∧ e = newE c p t) := by
 unfold addL
 rw [List.mem_append, mem_ofP]
 by_cases h : q = p <;> simp [h]
theorem mem_addR (hc : Card c) {p : Int} (h0 : 0 ≤ p) (h2 : p ≤ 2) {t : ByteArray} {e : Ent} : e ∈ addR c p t ↔ e ∈ c ∨ e = newE c p t := by
 unfold addR
 simp only [List.mem_append, mem_addL]
 by_cases h1 : e ∈ c
 ·have := card_pl hc h1
  simp [h1]; omega
 ·by_cases hn : e = newE c p t
  ·simp [hn]; omega
  ·simp [h1, hn]
theorem addR_sorted (hc : Card c) (p : Int) (t : ByteArray) : (addR c p t).Pairwise keyLt := by
 have one : ∀ q : Int, (addL c p t q).Pairwise keyLt := fun q => by
  unfold addL
  rw [List.pairwise_append]
  refine ⟨hc.sorted.filter _, ?_, fun x hx y hy => ?_⟩
  ·split
   ·exact List.pairwise_singleton _ _
   ·exact List.Pairwise.nil
  ·split at hy
   ·rename_i hq
    rw [List.mem_singleton.1 hy]
    obtain ⟨x1, x2⟩ := mem_ofP.1 hx
    have := (Ord_num hc.ord x x1).2
    subst hq
    rw [x2] at this
    refine .inr ⟨x2, ?_⟩
    show x.2.1 < (clk c q : Int) + 1
    omega
   ·cases hy
 have pl : ∀ q : Int, ∀ e ∈ addL c p t q, e.1 = q := fun q e he => by
  rcases mem_addL.1 he with ⟨_, h⟩ | ⟨h, rfl⟩
  ·exact h
  ·exact h.symm
 exact three_sorted (one 0) (one 1) (one 2) (pl 0) (pl 1) (pl 2)
theorem add_perm (hc : Card c) {p : Int} {t : ByteArray} : (c ++ [newE c p t]).Nodup ∧ ∀ e ∈ c ++ [newE c p t], ∀ f ∈ c ++ [newE c p t], e.1 = f.1 → e.2.1 = f.2.1 → e = f := by
 have far : ∀ e ∈ c, e.1 = p → e.2.1 = (clk c p : Int) + 1 → False := fun e he h1 h2 => by
  have := (Ord_num hc.ord e he).2
  rw [h1] at this
  omega
 constructor
 ·rw [List.nodup_append]
  refine ⟨sorted_nodup hc.sorted, by simp, fun x hx y hy e => ?_⟩
  subst e
  rw [List.mem_singleton] at hy
  exact far x hx (by rw [hy]; rfl) (by rw [hy]; rfl)
 ·intro e he f hf h1 h2
  rcases List.mem_append.1 he with he | he <;> rcases List.mem_append.1 hf with hf | hf
  ·exact sorted_inj hc.sorted he hf h1 h2
  ·rw [List.mem_singleton] at hf; subst hf
   exact (far e he h1 h2).elim
  ·rw [List.mem_singleton] at he; subst he
   exact (far f hf h1.symm h2.symm).elim
  ·rw [List.mem_singleton] at he hf
   rw [he, hf]
theorem add_sort (hc : Card c) {p : Int} (h0 : 0 ≤ p) (h2 : p ≤ 2) {t : ByteArray} {l : List Ent} (hp : l.Perm (c ++ [newE c p t])) (hs : l.Pairwise fun x y => ¬ keyLt y x) : l = addR c p t := by
 obtain ⟨nd, inj⟩ := add_perm hc (p := p) (t := t)
 refine sorted_ext (sorted_of_sort hp hs nd inj) (addR_sorted hc p t) (fun e => ?_)
 rw [hp.mem_iff, mem_addR hc h0 h2]
 simp
theorem addR_length (hc : Card c) {p : Int} (h0 : 0 ≤ p) (h2 : p ≤ 2) {t : ByteArray} : (addR c p t).length = c.length + 1 := by
 obtain ⟨nd, inj⟩ := add_perm hc (p := p) (t := t)
 have : (addR c p t).Perm (c ++ [newE c p t]) := (List.perm_ext_iff_of_nodup (sorted_nodup (addR_sorted hc p t)) nd).2 fun e => by
  rw [mem_addR hc h0 h2]; simp
 rw [this.length_eq]
 simp
theorem clk_mono_of {x y : List Ent} (hx : Ord x) (hy : Ord y) (h : ∀ e ∈ x, e ∈ y) (p : Int) : clk x p ≤ clk y p := by
 rcases Nat.eq_zero_or_pos (clk x p) with h0 | h0
 ·omega
 ·obtain ⟨f, hf, f1, f2⟩ := Ord_all hx (s := clk x p) (p := p) (by omega) (Int.le_refl _)
  have := (Ord_num hy f (h f hf)).2
  rw [f1] at this
  omega
theorem card_add (hc : Card c) {p : Int} (h0 : 0 ≤ p) (h2 : p ≤ 2) {t : ByteArray} (ht : right t = true) (hl : c.length < 60) : Card (addR c p t) := by
 have M : ∀ e, e ∈ addR c p t ↔ e ∈ c ∨ e = newE c p t := fun e => mem_addR hc h0 h2
 have ho : Ord (addR c p t) := by
  refine Ord_of (addR_sorted hc p t) (fun e he => ?_) (fun e he h => ?_)
  ·rcases (M e).1 he with he | rfl
   ·exact (Ord_num hc.ord e he).1
   ·show 1 ≤ (clk c p : Int) + 1
    omega
  ·rcases (M e).1 he with he | rfl
   ·obtain ⟨f, hf, f1, f2⟩ := Ord_all hc.ord (s := e.2.1 - 1) (p := e.1) (by omega) (by have := (Ord_num hc.ord e he).2; omega)
    exact ⟨f, (M f).2 (.inl hf), f1, f2⟩
   ·obtain ⟨f, hf, f1, f2⟩ := Ord_all hc.ord (s := (clk c p : Int)) (p := p) (by change 2 ≤ (clk c p : Int) + 1 at h; omega) (Int.le_refl _)
    refine ⟨f, (M f).2 (.inl hf), f1, ?_⟩
    show f.2.1 = (clk c p : Int) + 1 - 1
    omega
 have mono : ∀ q, clk c q ≤ clk (addR c p t) q := clk_mono_of hc.ord ho fun e he => (M e).2 (.inl he)
 refine ⟨by rw [addR_length hc h0 h2]; omega, fun e he => ?_, ho, fun e he => ?_⟩
 ·rcases (M e).1 he with he | rfl
  ·exact hc.txt e he
  ·exact ⟨h0, h2, ht⟩
 ·rcases (M e).1 he with he | rfl
  ·refine wrong_intro (fun q hq => ⟨fun h => ((wrong_not (hc.saw e he)).1 q hq).1 h, (hc.sn he hq).1, ?_⟩) (fun f hf hs q hq => ?_)
   ·have := (hc.sn he hq).2
    have := mono q
    omega
   ·rcases (M f).1 hf with hf | rfl
    ·exact hc.up he hf hs hq
    ·rw [sawE_iff] at hs
     change (clk c p : Int) + 1 ≤ e.sn p at hs
     obtain ⟨k, hk⟩ := Int.eq_ofNat_of_zero_le h0
     subst hk
     rename_i he'
     have := (hc.sn he' (p := k) (by omega)).2
     omega
  ·refine wrong_intro (fun q hq => ⟨fun h => ?_, ?_, ?_⟩) (fun f hf hs q hq => ?_)
   ·rw [newE_sn c p t hq]
    change (q : Int) = p at h
    show (clk c q : Int) = (clk c p : Int) + 1 - 1
    rw [h]; omega
   ·rw [newE_sn c p t hq]; omega
   ·rw [newE_sn c p t hq]
    have := mono q
    omega
   ·rw [newE_sn c p t hq]
    rcases (M f).1 hf with hf | rfl
    ·exact (hc.sn hf hq).2
    ·rw [newE_sn c p t hq]
     exact Int.le_refl _
theorem addE_zero {p : Int} {t : ByteArray} : addE c p t = 0 ↔ Card c ∧ 0 ≤ p ∧ p ≤ 2 ∧ right t = true ∧ c.length < 60 := by
 unfold addE
 constructor
 ·intro h
  split at h
  ·rename_i h1; exact absurd h h1
  rename_i h1
  split at h
  ·exact absurd h (by decide)
  rename_i h2
  split at h
  ·exact absurd h (by decide)
  rename_i h3
  refine ⟨val_zero.1 (Classical.not_not.1 h1), by omega, by omega, ?_, by omega⟩
  cases hr : right t
  ·exact absurd (.inr (.inr hr)) h2
  ·rfl
 ·rintro ⟨h1, h2, h3, h4, h5⟩
  rw [if_neg (fun h => h (val_zero.2 h1)), if_neg (by rw [h4]; simp; omega), if_neg (by omega)]
end
end Go.Proofs.YtihhclhpjgeniaaGreatDoor
namespace Go.Proofs.YtihhclhpjgeniaaGreatDoor
open Go.RowKit Go.Sort
section
variable {a b c x : List Ent}
def okC (c : List Ent) (t : Nat → Int) : Prop := ∀ p : Nat, p < 3 → 0 ≤ t p ∧ t p ≤ clk c p
instance (c : List Ent) (t : Nat → Int) : Decidable (okC c t) := by unfold okC; infer_instance
end
end Go.Proofs.YtihhclhpjgeniaaGreatDoor
namespace Go.Proofs.YtihhclhpjgeniaaGreatDoor
open Go.RowKit Go.Sort
section
variable {es : List Ent}
end
end Go.Proofs.YtihhclhpjgeniaaGreatDoor
namespace Go.Proofs.YtihhclhpjgeniaaGreatDoor
def lowC (c : UInt8) : Bool := 97 ≤ c.toNat && c.toNat ≤ 122
def digC (c : UInt8) : Bool := 48 ≤ c.toNat && c.toNat ≤ 57
def firstC : List UInt8 → Bool
 | [] => false
 | c :: _ => lowC c
def okName (s : List UInt8) : Bool := decide (1 ≤ s.length) && decide (s.length ≤ 8) && firstC s && s.all fun c => lowC c || digC c
end Go.Proofs.YtihhclhpjgeniaaGreatDoor
namespace Go.Proofs.YtihhclhpjgeniaaGreatDoor
end Go.Proofs.YtihhclhpjgeniaaGreatDoor
namespace Go.Proofs.YtihhclhpjgeniaaGreatDoor
open Go.RowKit Go.Sort
section
variable {c c' : List Ent}
end
end Go.Proofs.YtihhclhpjgeniaaGreatDoor
