/- Merged texts: Hv Hw O1 O2 O3 Cn -/
import Derived.Test.YtnlhllleipemlaaGreatDoorG3
namespace Go.Proofs.YtnlhllleipemlaaGreatDoor
open Go.RowKit Go.Sort

section
variable {P : Program} {ops : Array Oper} {md : Region.Mode} {Q : Exit → Act → World → Prop} {S : World → Prop}
/-- One value in every world of the class, and a grown world. -/
def YieldsG (P : Program) (ops : Array Oper) (S : World → Prop) (o : Oper) (v : Value) (a : Act) : Prop :=
  (Region.wanted o (yielded ops a.tmps) = true ∧ ∀ w, S w → o.quietAt P a (fun w' => Below w.heap.size w w') w v) ∨ (Region.wanted o (yielded ops a.tmps) = false ∧ v = undef)
theorem YieldsG.same {o : Oper} {v : Value} {a a' : Act} (hy : YieldsG P ops S o v a) (he : execOp a'.eval o = execOp a.eval o) (hw : Region.wanted o (yielded ops a'.tmps) = Region.wanted o (yielded ops a.tmps)) : YieldsG P ops S o v a' := by
  unfold YieldsG Oper.quietAt at *
  rw [he, hw]
  exact hy
theorem YieldsG.op {i : Nat} {o : Oper} {v : Value} {a : Act} (hi : ops[i]? = some o) (hy : YieldsG P ops S o v a) {K : Act → World → Prop} {w : World} (hS : S w) (h : ∀ w', Below w.heap.size w w' → K (a.put o.dst v) w') : wpOp P ops Q i K a w := by
  unfold wpOp
  simp only [hi]
  rcases hy with ⟨hw, hv⟩ | ⟨hw, rfl⟩
  · rw [if_pos hw]
    refine .inl ?_
    have h3 := hv w hS
    unfold Oper.quietAt at h3
    unfold Oper.wp
    generalize (execOp a.eval o).run P w = r at h3
    cases r with
    | halt x w' => simp only [Oper.quietUpon] at h3
    | ok n w' =>
      cases n with
      | value u =>
        obtain ⟨e1, e2⟩ := h3
        subst e1 e2
        exact h _ (Below.refl _ _)
      | skip =>
        obtain ⟨e1, e2⟩ := h3
        subst e1 e2
        exact h _ (Below.refl _ _)
      | enter f args =>
        obtain ⟨e1, hc⟩ := h3
        subst e1
        exact hc.mono fun e w'' ⟨he, hb⟩ => by subst he; exact h _ hb
      | _ => simp only [Oper.quietUpon] at h3
  · rw [hw]
    simp only [Bool.false_eq_true, if_false]
    exact h _ (Below.refl _ _)
/-- What an operation does to the frame. -/
theorem wpOp_where {j : Nat} {oj : Oper} {K : Act → World → Prop} {a : Act} {w : World} (hj : ops[j]? = some oj) (h : wpOp P ops Q j K a w) :
    wpOp P ops Q j (fun a' w' => (∃ u d, a' = ({ a with defers := d } : Act).put oj.dst u) ∧ K a' w') a w := by
  unfold wpOp at *
  simp only [hj] at *
  by_cases hw : Region.wanted oj (yielded ops a.tmps) = true
  · rw [if_pos hw] at h ⊢
    rcases h with h | h
    case inr => exact .inr h
    refine .inl ?_
    unfold Oper.wp at *
    generalize (execOp a.eval oj).run P w = r at *
    cases r with
    | ok n w' =>
      cases n with
      | value u => exact ⟨⟨u, a.defers, rfl⟩, h⟩
      | skip => exact ⟨⟨undef, a.defers, rfl⟩, h⟩
      | defer d => exact ⟨⟨undef, _, rfl⟩, h⟩
      | enter f args =>
        exact Calls.mono h fun e w'' he => by
          cases e with
          | returned u => exact ⟨⟨u, a.defers, rfl⟩, he⟩
          | panicked c => exact he
          | outgrown => exact he
      | row r args => exact Rows.mono h fun u w'' he => ⟨⟨u, a.defers, rfl⟩, he⟩
      | _ => exact h
    | halt x w' => cases x <;> exact h
  · rw [if_neg hw] at h ⊢
    exact ⟨⟨undef, a.defers, rfl⟩, h⟩
theorem wpOp_putG {j : Nat} {oi oj : Oper} {v : Value} (hj : ops[j]? = some oj) (hap : oi.apart ops oj = true) (hsi : ∀ cs b, oi.op ≠ .select cs b) (hsj : ∀ cs b, oj.op ≠ .select cs b)
    (hQ : ∀ c a w, Q (.panic c) (a.put oi.dst v) w → Q (.panic c) a w) {K : Act → World → Prop} {a : Act} {w : World} (hy : YieldsG P ops S oi v a) (h : wpOp P ops Q j K (a.put oi.dst v) w) :
    wpOp P ops Q j (fun a' w' => YieldsG P ops S oi v a' ∧ K (a'.put oi.dst v) w') a w := by
  have hF : YieldsIf P ops (fun _ => False) oi v a := hy.imp (fun ⟨hw, _⟩ => ⟨hw, fun _ h => h.elim⟩) id
  obtain ⟨_, _, h3⟩ := Oper.apart_spec hap
  refine wpOp_mono (fun a' w' ⟨⟨u, d, e⟩, _, hk⟩ => ⟨?_, hk⟩) (wpOp_where hj (wpOp_putIf hj hap hsi hsj hQ hF h))
  subst e
  have hd : YieldsG P ops S oi v ({ a with defers := d } : Act) := hy.same rfl rfl
  exact hd.same (execOp_put oi hsi _ oj.dst u h3) (wanted_put oi _ oj.dst u h3)
def canonG (P : Program) (ops : Array Oper) (S : World → Prop) (L : Act → Prop) : List Nat → Act → Prop
  | [], a => L a
  | i :: hs, a => ∃ o v, ops[i]? = some o ∧ YieldsG P ops S o v a ∧ canonG P ops S L hs (a.put o.dst v)
theorem canonG_some {L : Act → Prop} : ∀ (hs : List Nat) (a : Act), canonG P ops S L hs a → ∃ a', L a'
  | [], a, h => ⟨a, h⟩
  | _ :: hs, _, ⟨_, _, _, _, h⟩ => canonG_some hs _ h
theorem canonG_mono {L L' : Act → Prop} (hl : ∀ a, L a → L' a) : ∀ (hs : List Nat) (a : Act), canonG P ops S L hs a → canonG P ops S L' hs a
  | [], a, h => hl a h
  | _ :: hs, _, ⟨o, v, ho, hy, h⟩ => ⟨o, v, ho, hy, canonG_mono hl hs _ h⟩
theorem canonG_move {L : Act → Prop} {j : Nat} {oj : Oper} {q : List Nat} (hsel : ∀ (j : Nat) (o : Oper) cs b, ops[j]? = some o → o.op ≠ .select cs b) (hj : ops[j]? = some oj) :
    ∀ (p : List Nat) (a : Act), (∀ h ∈ p, ∀ oh, ops[h]? = some oh → oh.apart ops oj = true) → canonG P ops S L (p ++ j :: q) a → ∃ v, YieldsG P ops S oj v a ∧ canonG P ops S L (p ++ q) (a.put oj.dst v)
  | [], a, _, ⟨o, v, ho, hy, hc⟩ => by
    obtain rfl : o = oj := Option.some.inj (ho.symm.trans hj)
    exact ⟨v, hy, hc⟩
  | h :: p, a, hap, ⟨o, u, ho, hy, hc⟩ => by
    obtain ⟨v, hyj, hcj⟩ := canonG_move hsel hj p (a.put o.dst u) (fun k hk => hap k (List.mem_cons_of_mem _ hk)) hc
    obtain ⟨h1, h2, h3⟩ := Oper.apart_spec (hap h List.mem_cons_self o ho)
    refine ⟨v, hyj.same (execOp_put oj (fun cs b => hsel j oj cs b hj) a o.dst u h1).symm (wanted_put oj a o.dst u h1).symm, o, u, ho, hy.same (execOp_put o (fun cs b => hsel h o cs b ho) a oj.dst v h3) (wanted_put o a oj.dst v h3), ?_⟩
    rw [← Act.put_comm a u v h2]
    exact hcj
theorem canonG_push {t : Nat} {ot : Oper} (hsel : ∀ (j : Nat) (o : Oper) cs b, ops[j]? = some o → o.op ≠ .select cs b) (ht : ops[t]? = some ot)
    (hQ : ∀ c (a : Act) d v w, Q (.panic c) (a.put d v) w → Q (.panic c) a w) {K : Act → World → Prop} {w : World} :
    ∀ (hs : List Nat) (a : Act), (∀ h ∈ hs, ∀ oh, ops[h]? = some oh → oh.apart ops ot = true) → canonG P ops S (fun a' => wpOp P ops Q t K a' w) hs a → wpOp P ops Q t (fun a' w' => canonG P ops S (fun a'' => K a'' w') hs a') a w
  | [], a, _, h => h
  | h :: hs, a, hap, ⟨o, v, ho, hy, hc⟩ => by
    have := canonG_push hsel ht hQ hs (a.put o.dst v) (fun k hk => hap k (List.mem_cons_of_mem _ hk)) hc
    exact wpOp_mono (fun a' w' ⟨hy', hk⟩ => ⟨o, v, ho, hy', hk⟩) (wpOp_putG ht (hap h List.mem_cons_self o ho) (fun cs b => hsel h o cs b ho) (fun cs b => hsel t ot cs b ht) (fun c a w => hQ c a _ _ w) hy this)
def tailG (P : Program) (md : Region.Mode) (ops : Array Oper) (Q : Exit → Act → World → Prop) (S : World → Prop) : Nat → List Nat → Act → World → Prop
  | 0, _, a, w => ∀ W, Below w.heap.size w W → Q .normal a W
  | 1, ts, a, w => ∀ W, Below w.heap.size w W → ∀ t ∈ readyT md ops ts, wpOp P ops Q t (fun a' w' => Q .normal a' w') a W
  | n + 2, ts, a, w => ∀ W, Below w.heap.size w W → ∀ t ∈ readyT md ops ts, wpOp P ops Q t (fun a' w' => S w' ∧ tailG P md ops Q S (n + 1) (ts.erase t) a' w') a W
theorem tailG_grow {a : Act} {ts : List Nat} {w w' : World} (hb : Below w.heap.size w w') : ∀ n, tailG P md ops Q S n ts a w → tailG P md ops Q S n ts a w'
  | 0, h => fun W hW => h W (below_trans' hb hW)
  | 1, h => fun W hW => h W (below_trans' hb hW)
  | _ + 2, h => fun W hW => h W (below_trans' hb hW)
theorem wpAny_hv (hsel : Region.noSelect ops = true) (hsk : Region.sinkB md ops (ops.size - 1) = true) (hck : Region.chainB md ops (ops.size - 1) = true) (h0 : 0 < ops.size) (hdn : downB md ops = true)
    (hQ : ∀ c (a : Act) d v w, Q (.panic c) (a.put d v) w → Q (.panic c) a w) (hSg : ∀ w w', S w → Below w.heap.size w w' → S w') :
    ∀ (f : Nat) (hs ts : List Nat) (listed : Array Bool) (a : Act) (w : World), f + 1 = hs.length + ts.length → RemU md ops hs ts listed → S w → canonG P ops S (fun a' => tailG P md ops Q S ts.length ts a' w) hs a → wpAny P md ops Q (f + 1) listed a w
  | f, hs, ts, listed, a, w, hf, R, hS, hc => by
    have hselS := Region.noSelect_spec hsel
    refine ⟨fun hr => ?_, fun j hj => ?_⟩
    · exfalso
      -- the least of what is to come is ready
      have hlast : ops.size - 1 ∈ hs ++ ts := List.mem_append.2 (.inr R.last)
      obtain ⟨m, hmin, hless⟩ := least_of (p := fun i => listed.getD i true) _ ((R.mem _).2 hlast)
      have hlt := R.lt _ ((R.mem _).1 hmin)
      have : m ∈ Region.ready md ops listed := by
        rw [mem_ready]
        refine ⟨hmin, ops[m], by simp [hlt], fun e he hb => ?_⟩
        unfold downB at hdn
        rw [List.all_eq_true] at hdn
        have h1 := hdn m (List.mem_range.2 hlt)
        rw [Array.getElem?_eq_getElem hlt] at h1
        simp only [Option.map_some, Option.getD_some, Array.all_eq_true_iff_forall_mem] at h1
        have h2 := h1 e he
        rw [hb] at h2
        have h3 : e.on < m := by simpa using h2
        have h4 : listed.getD e.on true = true := hless e.on h3
        have h5 : e.on < listed.size := by rw [R.inv.size]; omega
        simp [h5] at h4 ⊢
        exact h4
      rw [hr] at this
      cases this
    · obtain ⟨hun, oj, hoj, hall⟩ := mem_ready.1 hj
      have hjlt : j < ops.size := (Array.getElem?_eq_some_iff.1 hoj).1
      have hapj : ∀ h ∈ hs, ap1 md ops h j = true → ∀ oh, ops[h]? = some oh → oh.apart ops oj = true := fun h hh h1 oh hoh =>
        ap1_spec h1 hoh hoj (ready_waits hj ((R.mem h).2 (List.mem_append.2 (.inl hh))))
      have hmem' : ∀ i, (listed.setIfInBounds j true).getD i true = false ↔ i ≠ j ∧ i ∈ hs ++ ts := fun i => by
        by_cases hij : i = j
        · subst hij
          simp only [ne_eq, not_true_eq_false, false_and, iff_false]
          rw [getD_set_self (by rw [R.inv.size]; exact hjlt)]; simp
        · rw [getD_set_ne true (Ne.symm hij), R.mem]; simp [hij]
      rcases List.mem_append.1 ((R.mem j).1 hun) with hjh | hjt
      · obtain ⟨p, q, rfl⟩ := List.append_of_mem hjh
        have hnd := R.nd
        rw [List.append_assoc, List.cons_append, List.nodup_append] at hnd
        obtain ⟨n1, n2, n3⟩ := hnd
        rw [List.nodup_cons] at n2
        have apq := List.pairwise_append.1 R.ap
        have hjp : j ∉ p := fun h => n3 j h j List.mem_cons_self rfl
        obtain ⟨v, hy, hcv⟩ := canonG_move hselS hoj p a (fun h hh => hapj h (by simp [hh]) (apq.2.2 h hh j List.mem_cons_self)) hc
        have hjn : j < ops.size - 1 := by
          have h1 : ops.size - 1 ∈ ts := R.last
          have : j ≠ ops.size - 1 := fun e => n2.1 (List.mem_append.2 (.inr (e ▸ h1)))
          omega
        refine hy.op hoj hS fun w' hgr => ?_
        cases f with
        | zero =>
          exfalso
          have h1 : 0 < ts.length := List.length_pos_of_mem R.last
          simp at hf
          omega
        | succ f =>
          refine wpAny_hv hsel hsk hck h0 hdn hQ hSg f (p ++ q) ts _ _ w' (by simp at hf ⊢; omega) ⟨R.inv.set hj hjn, fun i => ?_, ?_, fun i hi => R.lt i ?_, R.last, List.pairwise_append.2 ⟨apq.1, (List.pairwise_cons.1 apq.2.1).2, fun x hx y hy => apq.2.2 x hx y (List.mem_cons_of_mem _ hy)⟩, fun h hh => R.cr h ?_⟩ (hSg w w' hS hgr) (canonG_mono (fun _ h => tailG_grow hgr _ h) _ _ hcv)
          · rw [hmem']
            simp only [List.mem_append, List.mem_cons]
            refine ⟨fun ⟨h1, h2⟩ => ?_, fun h => ⟨fun e => ?_, ?_⟩⟩
            · rcases h2 with (h2 | h2 | h2) | h2
              · exact .inl (.inl h2)
              · exact absurd h2 h1
              · exact .inl (.inr h2)
              · exact .inr h2
            · subst e
              rcases h with (h | h) | h
              · exact hjp h
              · exact n2.1 (List.mem_append.2 (.inl h))
              · exact n2.1 (List.mem_append.2 (.inr h))
            · rcases h with (h | h) | h
              · exact .inl (.inl h)
              · exact .inl (.inr (.inr h))
              · exact .inr h
          · rw [List.append_assoc, List.nodup_append]
            exact ⟨n1, n2.2, fun x hx y hy => n3 x hx y (List.mem_cons_of_mem _ hy)⟩
          · simp only [List.mem_append, List.mem_cons] at hi ⊢
            rcases hi with (h | h) | h
            · exact .inl (.inl h)
            · exact .inl (.inr (.inr h))
            · exact .inr h
          · simp only [List.mem_append, List.mem_cons] at hh ⊢
            rcases hh with h | h
            · exact .inl h
            · exact .inr (.inr h)
      · -- an operation that makes memory
        have hnd := R.nd
        rw [List.nodup_append] at hnd
        obtain ⟨n1, n2, n3⟩ := hnd
        have hjh : ∀ h ∈ hs, h ≠ j := fun h hh e => n3 h hh j hjt e
        have hready : j ∈ readyT md ops ts := by
          unfold readyT
          rw [List.mem_filter]
          refine ⟨hjt, ?_⟩
          rw [List.all_eq_true]
          intro u hu
          rw [ready_waits hj ((R.mem u).2 (List.mem_append.2 (.inr hu)))]
          rfl
        have hlen : (ts.erase j).length + 1 = ts.length := by
          have := List.length_erase_of_mem hjt
          have := List.length_pos_of_mem hjt
          omega
        have hme : ∀ x, x ∈ ts.erase j ↔ x ≠ j ∧ x ∈ ts := fun x => n2.mem_erase_iff
        have hcase : ts.length = 1 ∨ ∃ n, ts.length = n + 2 := by
          rcases Nat.lt_or_ge ts.length 2 with h | h
          · exact .inl (by omega)
          · exact .inr ⟨ts.length - 2, by omega⟩
        rcases hcase with hl1 | ⟨n, hl2⟩
        · have hjl : j = ops.size - 1 := by
            obtain ⟨x, hx⟩ := List.length_eq_one_iff.1 hl1
            have h1 := R.last
            rw [hx, List.mem_singleton] at h1 hjt
            rw [h1, hjt]
          have hnil : hs = [] := by
            cases hs with
            | nil => rfl
            | cons h hs =>
              exfalso
              have h1 : h ∈ h :: hs := List.mem_cons_self
              have h2 := (R.mem h).2 (List.mem_append.2 (.inl h1))
              have h3 : h < ops.size - 1 := by
                have := R.lt h (List.mem_append.2 (.inl h1))
                have := hjh h h1
                omega
              exact tail_waits hsk hck (by omega) R.inv _ h rfl h3 h2 j (by omega) hj
          subst hnil
          obtain rfl : f = 0 := by rw [hl1] at hf; simpa using hf
          rw [hl1] at hc
          refine wpOp_mono (fun a' w' hq => ⟨?_, hq⟩) (hc w (Below.refl _ _) j hready)
          refine List.eq_nil_iff_forall_not_mem.2 fun i hi => ?_
          have := (hmem' i).1 (mem_ready.1 hi).1
          obtain ⟨x, hx⟩ := List.length_eq_one_iff.1 hl1
          rw [hx, List.mem_singleton] at hjt
          rw [hx] at this
          simp [hjt] at this
        · have hjn : j < ops.size - 1 := by
            have h1 := R.last
            have : j ≠ ops.size - 1 := fun e => by
              have hlen2 : 0 < (ts.erase j).length := by omega
              obtain ⟨x, hx⟩ := List.exists_mem_of_length_pos hlen2
              obtain ⟨x1, x2⟩ := (hme x).1 hx
              have h2 := (R.mem x).2 (List.mem_append.2 (.inr x2))
              have h3 : x < ops.size - 1 := by
                have := R.lt x (List.mem_append.2 (.inr x2))
                omega
              exact tail_waits hsk hck (by omega) R.inv _ x rfl h3 h2 j (by omega) hj
            omega
          have hc' := canonG_mono (L' := fun a' => wpOp P ops Q j (fun a' w' => S w' ∧ tailG P md ops Q S (n + 1) (ts.erase j) a' w') a' w) (fun a' h => by rw [hl2] at h; exact h w (Below.refl _ _) j hready) hs a hc
          have h1 := canonG_push (K := fun a' w' => S w' ∧ tailG P md ops Q S (n + 1) (ts.erase j) a' w') hselS hoj hQ hs a (fun h hh => hapj h hh (R.cr h hh j hjt)) hc'
          cases f with
          | zero => exfalso; omega
          | succ f =>
            refine wpOp_mono (fun a' w' hk => ?_) h1
            obtain ⟨_, hS', _⟩ := canonG_some hs a' hk
            have hn1 : n + 1 = (ts.erase j).length := by omega
            refine wpAny_hv hsel hsk hck h0 hdn hQ hSg f hs (ts.erase j) _ a' w' (by omega) ⟨R.inv.set hj hjn, fun i => ?_, ?_, fun i hi => R.lt i ?_, (hme _).2 ⟨by omega, R.last⟩, R.ap, fun h hh t ht => R.cr h hh t ((hme t).1 ht).2⟩ hS' (canonG_mono (fun _ h => hn1 ▸ h.2) hs a' hk)
            · rw [hmem', List.mem_append, List.mem_append, hme]
              refine ⟨fun ⟨h1, h2⟩ => ?_, fun h => ⟨fun e => ?_, ?_⟩⟩
              · rcases h2 with h2 | h2
                · exact .inl h2
                · exact .inr ⟨h1, h2⟩
              · subst e
                rcases h with h | h
                · exact hjh _ h rfl
                · exact h.1 rfl
              · rcases h with h | h
                · exact .inl h
                · exact .inr h.2
            · rw [List.nodup_append]
              exact ⟨n1, n2.erase j, fun x hx y hy => n3 x hx y ((hme y).1 hy).2⟩
            · rw [List.mem_append] at hi ⊢
              rcases hi with h | h
              · exact .inl h
              · exact .inr ((hme i).1 h).2
/-- The law. -/
theorem wp_region_hv {id : Nat} {a : Act} {w : World} {l : List Oper} (hs ts : List Nat) (S : World → Prop) (hm : P.follows .mixedOrders = true) (hB : huB .any l.toArray hs ts = true)
    (hSg : ∀ w w', S w → Below w.heap.size w w' → S w') (hS : S w.drew) (h : canonG P l.toArray S (fun a' => tailG P .any l.toArray (NoPanic Q) S ts.length ts a' w.drew) hs a) : (Code.region id l.toArray true).wp P Q a w := by
  simp only [huB, Bool.and_eq_true, decide_eq_true_eq] at hB
  obtain ⟨⟨⟨⟨⟨⟨⟨⟨⟨⟨⟨b1, b2⟩, b3⟩, b4⟩, b5⟩, b6⟩, bc⟩, b8⟩, b9⟩, b10⟩, b11⟩, b12⟩ := hB
  refine wp_region_noPanic (wp_region_any hm ?_)
  rw [List.all_eq_true] at b9 b10
  have hlt : ∀ i ∈ hs ++ ts, i < l.toArray.size := fun i hi => by simpa using b9 i hi
  obtain ⟨f, hf⟩ : ∃ f, l.toArray.size = f + 1 := ⟨l.toArray.size - 1, by omega⟩
  have R : RemU .any l.toArray hs ts (Array.replicate l.toArray.size false) := by
    refine ⟨⟨by simp, fun j oj _ hl => (by rw [getD_replicate_false] at hl; cases hl), fun t _ ht => getD_in (by simpa using ht) (getD_replicate_false _ _)⟩, fun i => ⟨fun hi => ?_, fun hi => ?_⟩, b8, hlt, by simpa using b11, pairB_spec _ b6, fun h hh t ht => by unfold crossB at bc; rw [List.all_eq_true] at bc; have := bc h hh; rw [List.all_eq_true] at this; exact this t ht⟩
    · rcases Nat.lt_or_ge i l.toArray.size with h | h
      · simpa using b10 i (List.mem_range.2 h)
      · rw [show (Array.replicate l.toArray.size false).getD i true = true by simp [Nat.not_lt.2 (by simpa using h)]] at hi; cases hi
    · exact getD_in (by simpa using hlt i hi) (getD_replicate_false _ _)
  have := wpAny_hv (P := P) (Q := NoPanic Q) (S := S) b1 b2 b3 b4 b5 (fun _ _ _ _ _ h => h) hSg f hs ts _ a w.drew (by omega) R hS h
  rw [← hf] at this
  exact this
theorem tailG_one {n t : Nat} {ts ts' : List Nat} {o : Oper} {a : Act} {w : World} (hr : readyT md ops ts = [t]) (he : ts.erase t = ts') (ho : ops[t]? = some o)
    (h : ∀ W, Below w.heap.size w W → wpList P ops (Thn Q fun a' w' => S w' ∧ tailG P md ops Q S (n + 1) ts' a' w') [o] a W) : tailG P md ops Q S (n + 2) ts a w := by
  intro W hW u hu
  rw [hr, List.mem_singleton] at hu
  subst hu
  rw [he]
  exact wpOp_of_list ho (h W hW)
theorem tailG_two {n t t' : Nat} {ts ts1 ts2 : List Nat} {o o' : Oper} {a : Act} {w : World} (hr : readyT md ops ts = [t, t']) (he : ts.erase t = ts1) (he' : ts.erase t' = ts2) (ho : ops[t]? = some o) (ho' : ops[t']? = some o')
    (h : ∀ W, Below w.heap.size w W → wpList P ops (Thn Q fun a' w' => S w' ∧ tailG P md ops Q S (n + 1) ts1 a' w') [o] a W) (h' : ∀ W, Below w.heap.size w W → wpList P ops (Thn Q fun a' w' => S w' ∧ tailG P md ops Q S (n + 1) ts2 a' w') [o'] a W) : tailG P md ops Q S (n + 2) ts a w := by
  intro W hW u hu
  rw [hr] at hu
  simp only [List.mem_cons, List.not_mem_nil, or_false] at hu
  rcases hu with rfl | rfl
  · rw [he]; exact wpOp_of_list ho (h W hW)
  · rw [he']; exact wpOp_of_list ho' (h' W hW)
theorem tailG_last {t : Nat} {ts : List Nat} {o : Oper} {a : Act} {w : World} (hr : readyT md ops ts = [t]) (ho : ops[t]? = some o) (h : ∀ W, Below w.heap.size w W → wpList P ops Q [o] a W) : tailG P md ops Q S 1 ts a w := by
  intro W hW u hu
  rw [hr, List.mem_singleton] at hu
  subst hu
  exact tailW_last (S := fun _ => True) ho (h W hW)
theorem canonG_read {L : Act → Prop} {i : Nat} {o : Oper} {v : Value} {hs : List Nat} {a : Act} (ho : ops[i]? = some o) (hw : Region.wanted o (yielded ops a.tmps) = true)
    (h : ∀ w, S w → (execOp a.eval o).run P w = .ok (.value v) w) (hr : canonG P ops S L hs (a.put o.dst v)) : canonG P ops S L (i :: hs) a :=
  ⟨o, v, ho, .inl ⟨hw, fun w hS => by unfold Oper.quietAt; rw [h w hS]; exact ⟨rfl, rfl⟩⟩, hr⟩
theorem canonG_call {L : Act → Prop} {i : Nat} {o : Oper} {v : Value} {hs : List Nat} {a : Act} {f : FuncId} {args : Array Value} (ho : ops[i]? = some o) (hw : Region.wanted o (yielded ops a.tmps) = true)
    (h : ∀ w, S w → (execOp a.eval o).run P w = .ok (.enter f args) w) (hc : ∀ w, S w → Calls P f args w fun e w' => e = .returned v ∧ Below w.heap.size w w') (hr : canonG P ops S L hs (a.put o.dst v)) : canonG P ops S L (i :: hs) a :=
  ⟨o, v, ho, .inl ⟨hw, fun w hS => by unfold Oper.quietAt; rw [h w hS]; exact ⟨rfl, hc w hS⟩⟩, hr⟩
theorem canonG_skip {L : Act → Prop} {i : Nat} {o : Oper} {hs : List Nat} {a : Act} (ho : ops[i]? = some o) (hw : Region.wanted o (yielded ops a.tmps) = false) (hr : canonG P ops S L hs (a.put o.dst undef)) : canonG P ops S L (i :: hs) a :=
  ⟨o, undef, ho, .inr ⟨hw, rfl⟩, hr⟩
theorem canonG_nil {L : Act → Prop} {a : Act} (h : L a) : canonG P ops S L [] a := h
end
end Go.Proofs.YtnlhllleipemlaaGreatDoor

namespace Go.Proofs.YtnlhllleipemlaaGreatDoor
open Go.RowKit Go.Sort

section
variable {P : Program} {ops : Array Oper} {md : Region.Mode} {Q : Exit → Act → World → Prop} {S : World → Prop} {Rl : World → World → Prop}
/-- One value in every world of the class, and a grown world. -/
def YieldsR (P : Program) (ops : Array Oper) (S : World → Prop) (Rl : World → World → Prop) (o : Oper) (v : Value) (a : Act) : Prop :=
  (Region.wanted o (yielded ops a.tmps) = true ∧ ∀ w, S w → o.quietAt P a (fun w' => Rl w w') w v) ∨ (Region.wanted o (yielded ops a.tmps) = false ∧ v = undef)
theorem YieldsR.same {o : Oper} {v : Value} {a a' : Act} (hy : YieldsR P ops S Rl o v a) (he : execOp a'.eval o = execOp a.eval o) (hw : Region.wanted o (yielded ops a'.tmps) = Region.wanted o (yielded ops a.tmps)) : YieldsR P ops S Rl o v a' := by
  unfold YieldsR Oper.quietAt at *
  rw [he, hw]
  exact hy
theorem YieldsR.op {i : Nat} {o : Oper} {v : Value} {a : Act} (hi : ops[i]? = some o) (hRr : ∀ w, Rl w w) (hy : YieldsR P ops S Rl o v a) {K : Act → World → Prop} {w : World} (hS : S w) (h : ∀ w', Rl w w' → K (a.put o.dst v) w') : wpOp P ops Q i K a w := by
  unfold wpOp
  simp only [hi]
  rcases hy with ⟨hw, hv⟩ | ⟨hw, rfl⟩
  · rw [if_pos hw]
    refine .inl ?_
    have h3 := hv w hS
    unfold Oper.quietAt at h3
    unfold Oper.wp
    generalize (execOp a.eval o).run P w = r at h3
    cases r with
    | halt x w' => simp only [Oper.quietUpon] at h3
    | ok n w' =>
      cases n with
      | value u =>
        obtain ⟨e1, e2⟩ := h3
        subst e1 e2
        exact h _ (hRr _)
      | skip =>
        obtain ⟨e1, e2⟩ := h3
        subst e1 e2
        exact h _ (hRr _)
      | enter f args =>
        obtain ⟨e1, hc⟩ := h3
        subst e1
        exact hc.mono fun e w'' ⟨he, hb⟩ => by subst he; exact h _ hb
      | _ => simp only [Oper.quietUpon] at h3
  · rw [hw]
    simp only [Bool.false_eq_true, if_false]
    exact h _ (hRr _)
theorem wpOp_putR {j : Nat} {oi oj : Oper} {v : Value} (hj : ops[j]? = some oj) (hap : oi.apart ops oj = true) (hsi : ∀ cs b, oi.op ≠ .select cs b) (hsj : ∀ cs b, oj.op ≠ .select cs b)
    (hQ : ∀ c a w, Q (.panic c) (a.put oi.dst v) w → Q (.panic c) a w) {K : Act → World → Prop} {a : Act} {w : World} (hy : YieldsR P ops S Rl oi v a) (h : wpOp P ops Q j K (a.put oi.dst v) w) :
    wpOp P ops Q j (fun a' w' => YieldsR P ops S Rl oi v a' ∧ K (a'.put oi.dst v) w') a w := by
  have hF : YieldsIf P ops (fun _ => False) oi v a := hy.imp (fun ⟨hw, _⟩ => ⟨hw, fun _ h => h.elim⟩) id
  obtain ⟨_, _, h3⟩ := Oper.apart_spec hap
  refine wpOp_mono (fun a' w' ⟨⟨u, d, e⟩, _, hk⟩ => ⟨?_, hk⟩) (wpOp_where hj (wpOp_putIf hj hap hsi hsj hQ hF h))
  subst e
  have hd : YieldsR P ops S Rl oi v ({ a with defers := d } : Act) := hy.same rfl rfl
  exact hd.same (execOp_put oi hsi _ oj.dst u h3) (wanted_put oi _ oj.dst u h3)
def canonR (P : Program) (ops : Array Oper) (S : World → Prop) (Rl : World → World → Prop) (L : Act → Prop) : List Nat → Act → Prop
  | [], a => L a
  | i :: hs, a => ∃ o v, ops[i]? = some o ∧ YieldsR P ops S Rl o v a ∧ canonR P ops S Rl L hs (a.put o.dst v)
theorem canonR_some {L : Act → Prop} : ∀ (hs : List Nat) (a : Act), canonR P ops S Rl L hs a → ∃ a', L a'
  | [], a, h => ⟨a, h⟩
  | _ :: hs, _, ⟨_, _, _, _, h⟩ => canonR_some hs _ h
theorem canonR_mono {L L' : Act → Prop} (hl : ∀ a, L a → L' a) : ∀ (hs : List Nat) (a : Act), canonR P ops S Rl L hs a → canonR P ops S Rl L' hs a
  | [], a, h => hl a h
  | _ :: hs, _, ⟨o, v, ho, hy, h⟩ => ⟨o, v, ho, hy, canonR_mono hl hs _ h⟩
theorem canonR_move {L : Act → Prop} {j : Nat} {oj : Oper} {q : List Nat} (hsel : ∀ (j : Nat) (o : Oper) cs b, ops[j]? = some o → o.op ≠ .select cs b) (hj : ops[j]? = some oj) :
    ∀ (p : List Nat) (a : Act), (∀ h ∈ p, ∀ oh, ops[h]? = some oh → oh.apart ops oj = true) → canonR P ops S Rl L (p ++ j :: q) a → ∃ v, YieldsR P ops S Rl oj v a ∧ canonR P ops S Rl L (p ++ q) (a.put oj.dst v)
  | [], a, _, ⟨o, v, ho, hy, hc⟩ => by
    obtain rfl : o = oj := Option.some.inj (ho.symm.trans hj)
    exact ⟨v, hy, hc⟩
  | h :: p, a, hap, ⟨o, u, ho, hy, hc⟩ => by
    obtain ⟨v, hyj, hcj⟩ := canonR_move hsel hj p (a.put o.dst u) (fun k hk => hap k (List.mem_cons_of_mem _ hk)) hc
    obtain ⟨h1, h2, h3⟩ := Oper.apart_spec (hap h List.mem_cons_self o ho)
    refine ⟨v, hyj.same (execOp_put oj (fun cs b => hsel j oj cs b hj) a o.dst u h1).symm (wanted_put oj a o.dst u h1).symm, o, u, ho, hy.same (execOp_put o (fun cs b => hsel h o cs b ho) a oj.dst v h3) (wanted_put o a oj.dst v h3), ?_⟩
    rw [← Act.put_comm a u v h2]
    exact hcj
theorem canonR_push {t : Nat} {ot : Oper} (hsel : ∀ (j : Nat) (o : Oper) cs b, ops[j]? = some o → o.op ≠ .select cs b) (ht : ops[t]? = some ot)
    (hQ : ∀ c (a : Act) d v w, Q (.panic c) (a.put d v) w → Q (.panic c) a w) {K : Act → World → Prop} {w : World} :
    ∀ (hs : List Nat) (a : Act), (∀ h ∈ hs, ∀ oh, ops[h]? = some oh → oh.apart ops ot = true) → canonR P ops S Rl (fun a' => wpOp P ops Q t K a' w) hs a → wpOp P ops Q t (fun a' w' => canonR P ops S Rl (fun a'' => K a'' w') hs a') a w
  | [], a, _, h => h
  | h :: hs, a, hap, ⟨o, v, ho, hy, hc⟩ => by
    have := canonR_push hsel ht hQ hs (a.put o.dst v) (fun k hk => hap k (List.mem_cons_of_mem _ hk)) hc
    exact wpOp_mono (fun a' w' ⟨hy', hk⟩ => ⟨o, v, ho, hy', hk⟩) (wpOp_putR ht (hap h List.mem_cons_self o ho) (fun cs b => hsel h o cs b ho) (fun cs b => hsel t ot cs b ht) (fun c a w => hQ c a _ _ w) hy this)
def tailR (P : Program) (md : Region.Mode) (ops : Array Oper) (Q : Exit → Act → World → Prop) (S : World → Prop) (Rl : World → World → Prop) : Nat → List Nat → Act → World → Prop
  | 0, _, a, w => ∀ W, Rl w W → Q .normal a W
  | 1, ts, a, w => ∀ W, Rl w W → ∀ t ∈ readyT md ops ts, wpOp P ops Q t (fun a' w' => Q .normal a' w') a W
  | n + 2, ts, a, w => ∀ W, Rl w W → ∀ t ∈ readyT md ops ts, wpOp P ops Q t (fun a' w' => S w' ∧ tailR P md ops Q S Rl (n + 1) (ts.erase t) a' w') a W
theorem tailR_grow (hRt : ∀ u v w, Rl u v → Rl v w → Rl u w) {a : Act} {ts : List Nat} {w w' : World} (hb : Rl w w') : ∀ n, tailR P md ops Q S Rl n ts a w → tailR P md ops Q S Rl n ts a w'
  | 0, h => fun W hW => h W (hRt _ _ _ hb hW)
  | 1, h => fun W hW => h W (hRt _ _ _ hb hW)
  | _ + 2, h => fun W hW => h W (hRt _ _ _ hb hW)
theorem wpAny_hw (hsel : Region.noSelect ops = true) (hsk : Region.sinkB md ops (ops.size - 1) = true) (hck : Region.chainB md ops (ops.size - 1) = true) (h0 : 0 < ops.size) (hdn : downB md ops = true)
    (hQ : ∀ c (a : Act) d v w, Q (.panic c) (a.put d v) w → Q (.panic c) a w) (hRr : ∀ w, Rl w w) (hRt : ∀ u v w, Rl u v → Rl v w → Rl u w) (hSg : ∀ w w', S w → Rl w w' → S w') :
    ∀ (f : Nat) (hs ts : List Nat) (listed : Array Bool) (a : Act) (w : World), f + 1 = hs.length + ts.length → RemU md ops hs ts listed → S w → canonR P ops S Rl (fun a' => tailR P md ops Q S Rl ts.length ts a' w) hs a → wpAny P md ops Q (f + 1) listed a w
  | f, hs, ts, listed, a, w, hf, R, hS, hc => by
    have hselS := Region.noSelect_spec hsel
    refine ⟨fun hr => ?_, fun j hj => ?_⟩
    · exfalso
      -- the least of what is to come is ready
      have hlast : ops.size - 1 ∈ hs ++ ts := List.mem_append.2 (.inr R.last)
      obtain ⟨m, hmin, hless⟩ := least_of (p := fun i => listed.getD i true) _ ((R.mem _).2 hlast)
      have hlt := R.lt _ ((R.mem _).1 hmin)
      have : m ∈ Region.ready md ops listed := by
        rw [mem_ready]
        refine ⟨hmin, ops[m], by simp [hlt], fun e he hb => ?_⟩
        unfold downB at hdn
        rw [List.all_eq_true] at hdn
        have h1 := hdn m (List.mem_range.2 hlt)
        rw [Array.getElem?_eq_getElem hlt] at h1
        simp only [Option.map_some, Option.getD_some, Array.all_eq_true_iff_forall_mem] at h1
        have h2 := h1 e he
        rw [hb] at h2
        have h3 : e.on < m := by simpa using h2
        have h4 : listed.getD e.on true = true := hless e.on h3
        have h5 : e.on < listed.size := by rw [R.inv.size]; omega
        simp [h5] at h4 ⊢
        exact h4
      rw [hr] at this
      cases this
    · obtain ⟨hun, oj, hoj, hall⟩ := mem_ready.1 hj
      have hjlt : j < ops.size := (Array.getElem?_eq_some_iff.1 hoj).1
      have hapj : ∀ h ∈ hs, ap1 md ops h j = true → ∀ oh, ops[h]? = some oh → oh.apart ops oj = true := fun h hh h1 oh hoh =>
        ap1_spec h1 hoh hoj (ready_waits hj ((R.mem h).2 (List.mem_append.2 (.inl hh))))
      have hmem' : ∀ i, (listed.setIfInBounds j true).getD i true = false ↔ i ≠ j ∧ i ∈ hs ++ ts := fun i => by
        by_cases hij : i = j
        · subst hij
          simp only [ne_eq, not_true_eq_false, false_and, iff_false]
          rw [getD_set_self (by rw [R.inv.size]; exact hjlt)]; simp
        · rw [getD_set_ne true (Ne.symm hij), R.mem]; simp [hij]
      rcases List.mem_append.1 ((R.mem j).1 hun) with hjh | hjt
      · obtain ⟨p, q, rfl⟩ := List.append_of_mem hjh
        have hnd := R.nd
        rw [List.append_assoc, List.cons_append, List.nodup_append] at hnd
        obtain ⟨n1, n2, n3⟩ := hnd
        rw [List.nodup_cons] at n2
        have apq := List.pairwise_append.1 R.ap
        have hjp : j ∉ p := fun h => n3 j h j List.mem_cons_self rfl
        obtain ⟨v, hy, hcv⟩ := canonR_move hselS hoj p a (fun h hh => hapj h (by simp [hh]) (apq.2.2 h hh j List.mem_cons_self)) hc
        have hjn : j < ops.size - 1 := by
          have h1 : ops.size - 1 ∈ ts := R.last
          have : j ≠ ops.size - 1 := fun e => n2.1 (List.mem_append.2 (.inr (e ▸ h1)))
          omega
        refine hy.op hoj hRr hS fun w' hgr => ?_
        cases f with
        | zero =>
          exfalso
          have h1 : 0 < ts.length := List.length_pos_of_mem R.last
          simp at hf
          omega
        | succ f =>
          refine wpAny_hw hsel hsk hck h0 hdn hQ hRr hRt hSg f (p ++ q) ts _ _ w' (by simp at hf ⊢; omega) ⟨R.inv.set hj hjn, fun i => ?_, ?_, fun i hi => R.lt i ?_, R.last, List.pairwise_append.2 ⟨apq.1, (List.pairwise_cons.1 apq.2.1).2, fun x hx y hy => apq.2.2 x hx y (List.mem_cons_of_mem _ hy)⟩, fun h hh => R.cr h ?_⟩ (hSg w w' hS hgr) (canonR_mono (fun _ h => tailR_grow hRt hgr _ h) _ _ hcv)
          · rw [hmem']
            simp only [List.mem_append, List.mem_cons]
            refine ⟨fun ⟨h1, h2⟩ => ?_, fun h => ⟨fun e => ?_, ?_⟩⟩
            · rcases h2 with (h2 | h2 | h2) | h2
              · exact .inl (.inl h2)
              · exact absurd h2 h1
              · exact .inl (.inr h2)
              · exact .inr h2
            · subst e
              rcases h with (h | h) | h
              · exact hjp h
              · exact n2.1 (List.mem_append.2 (.inl h))
              · exact n2.1 (List.mem_append.2 (.inr h))
            · rcases h with (h | h) | h
              · exact .inl (.inl h)
              · exact .inl (.inr (.inr h))
              · exact .inr h
          · rw [List.append_assoc, List.nodup_append]
            exact ⟨n1, n2.2, fun x hx y hy => n3 x hx y (List.mem_cons_of_mem _ hy)⟩
          · simp only [List.mem_append, List.mem_cons] at hi ⊢
            rcases hi with (h | h) | h
            · exact .inl (.inl h)
            · exact .inl (.inr (.inr h))
            · exact .inr h
          · simp only [List.mem_append, List.mem_cons] at hh ⊢
            rcases hh with h | h
            · exact .inl h
            · exact .inr (.inr h)
      · -- an operation that makes memory
        have hnd := R.nd
        rw [List.nodup_append] at hnd
        obtain ⟨n1, n2, n3⟩ := hnd
        have hjh : ∀ h ∈ hs, h ≠ j := fun h hh e => n3 h hh j hjt e
        have hready : j ∈ readyT md ops ts := by
          unfold readyT
          rw [List.mem_filter]
          refine ⟨hjt, ?_⟩
          rw [List.all_eq_true]
          intro u hu
          rw [ready_waits hj ((R.mem u).2 (List.mem_append.2 (.inr hu)))]
          rfl
        have hlen : (ts.erase j).length + 1 = ts.length := by
          have := List.length_erase_of_mem hjt
          have := List.length_pos_of_mem hjt
          omega
        have hme : ∀ x, x ∈ ts.erase j ↔ x ≠ j ∧ x ∈ ts := fun x => n2.mem_erase_iff
        have hcase : ts.length = 1 ∨ ∃ n, ts.length = n + 2 := by
          rcases Nat.lt_or_ge ts.length 2 with h | h
          · exact .inl (by omega)
          · exact .inr ⟨ts.length - 2, by omega⟩
        rcases hcase with hl1 | ⟨n, hl2⟩
        · have hjl : j = ops.size - 1 := by
            obtain ⟨x, hx⟩ := List.length_eq_one_iff.1 hl1
            have h1 := R.last
            rw [hx, List.mem_singleton] at h1 hjt
            rw [h1, hjt]
          have hnil : hs = [] := by
            cases hs with
            | nil => rfl
            | cons h hs =>
              exfalso
              have h1 : h ∈ h :: hs := List.mem_cons_self
              have h2 := (R.mem h).2 (List.mem_append.2 (.inl h1))
              have h3 : h < ops.size - 1 := by
                have := R.lt h (List.mem_append.2 (.inl h1))
                have := hjh h h1
                omega
              exact tail_waits hsk hck (by omega) R.inv _ h rfl h3 h2 j (by omega) hj
          subst hnil
          obtain rfl : f = 0 := by rw [hl1] at hf; simpa using hf
          rw [hl1] at hc
          refine wpOp_mono (fun a' w' hq => ⟨?_, hq⟩) (hc w (hRr _) j hready)
          refine List.eq_nil_iff_forall_not_mem.2 fun i hi => ?_
          have := (hmem' i).1 (mem_ready.1 hi).1
          obtain ⟨x, hx⟩ := List.length_eq_one_iff.1 hl1
          rw [hx, List.mem_singleton] at hjt
          rw [hx] at this
          simp [hjt] at this
        · have hjn : j < ops.size - 1 := by
            have h1 := R.last
            have : j ≠ ops.size - 1 := fun e => by
              have hlen2 : 0 < (ts.erase j).length := by omega
              obtain ⟨x, hx⟩ := List.exists_mem_of_length_pos hlen2
              obtain ⟨x1, x2⟩ := (hme x).1 hx
              have h2 := (R.mem x).2 (List.mem_append.2 (.inr x2))
              have h3 : x < ops.size - 1 := by
                have := R.lt x (List.mem_append.2 (.inr x2))
                omega
              exact tail_waits hsk hck (by omega) R.inv _ x rfl h3 h2 j (by omega) hj
            omega
          have hc' := canonR_mono (L' := fun a' => wpOp P ops Q j (fun a' w' => S w' ∧ tailR P md ops Q S Rl (n + 1) (ts.erase j) a' w') a' w) (fun a' h => by rw [hl2] at h; exact h w (hRr _) j hready) hs a hc
          have h1 := canonR_push (K := fun a' w' => S w' ∧ tailR P md ops Q S Rl (n + 1) (ts.erase j) a' w') hselS hoj hQ hs a (fun h hh => hapj h hh (R.cr h hh j hjt)) hc'
          cases f with
          | zero => exfalso; omega
          | succ f =>
            refine wpOp_mono (fun a' w' hk => ?_) h1
            obtain ⟨_, hS', _⟩ := canonR_some hs a' hk
            have hn1 : n + 1 = (ts.erase j).length := by omega
            refine wpAny_hw hsel hsk hck h0 hdn hQ hRr hRt hSg f hs (ts.erase j) _ a' w' (by omega) ⟨R.inv.set hj hjn, fun i => ?_, ?_, fun i hi => R.lt i ?_, (hme _).2 ⟨by omega, R.last⟩, R.ap, fun h hh t ht => R.cr h hh t ((hme t).1 ht).2⟩ hS' (canonR_mono (fun _ h => hn1 ▸ h.2) hs a' hk)
            · rw [hmem', List.mem_append, List.mem_append, hme]
              refine ⟨fun ⟨h1, h2⟩ => ?_, fun h => ⟨fun e => ?_, ?_⟩⟩
              · rcases h2 with h2 | h2
                · exact .inl h2
                · exact .inr ⟨h1, h2⟩
              · subst e
                rcases h with h | h
                · exact hjh _ h rfl
                · exact h.1 rfl
              · rcases h with h | h
                · exact .inl h
                · exact .inr h.2
            · rw [List.nodup_append]
              exact ⟨n1, n2.erase j, fun x hx y hy => n3 x hx y ((hme y).1 hy).2⟩
            · rw [List.mem_append] at hi ⊢
              rcases hi with h | h
              · exact .inl h
              · exact .inr ((hme i).1 h).2
/-- The law. -/
theorem wp_region_hw {id : Nat} {a : Act} {w : World} {l : List Oper} (hs ts : List Nat) (S : World → Prop) (hm : P.follows .mixedOrders = true) (hB : huB .any l.toArray hs ts = true)
    (hRr : ∀ w, Rl w w) (hRt : ∀ u v w, Rl u v → Rl v w → Rl u w) (hSg : ∀ w w', S w → Rl w w' → S w') (hS : S w.drew) (h : canonR P l.toArray S Rl (fun a' => tailR P .any l.toArray (NoPanic Q) S Rl ts.length ts a' w.drew) hs a) : (Code.region id l.toArray true).wp P Q a w := by
  simp only [huB, Bool.and_eq_true, decide_eq_true_eq] at hB
  obtain ⟨⟨⟨⟨⟨⟨⟨⟨⟨⟨⟨b1, b2⟩, b3⟩, b4⟩, b5⟩, b6⟩, bc⟩, b8⟩, b9⟩, b10⟩, b11⟩, b12⟩ := hB
  refine wp_region_noPanic (wp_region_any hm ?_)
  rw [List.all_eq_true] at b9 b10
  have hlt : ∀ i ∈ hs ++ ts, i < l.toArray.size := fun i hi => by simpa using b9 i hi
  obtain ⟨f, hf⟩ : ∃ f, l.toArray.size = f + 1 := ⟨l.toArray.size - 1, by omega⟩
  have R : RemU .any l.toArray hs ts (Array.replicate l.toArray.size false) := by
    refine ⟨⟨by simp, fun j oj _ hl => (by rw [getD_replicate_false] at hl; cases hl), fun t _ ht => getD_in (by simpa using ht) (getD_replicate_false _ _)⟩, fun i => ⟨fun hi => ?_, fun hi => ?_⟩, b8, hlt, by simpa using b11, pairB_spec _ b6, fun h hh t ht => by unfold crossB at bc; rw [List.all_eq_true] at bc; have := bc h hh; rw [List.all_eq_true] at this; exact this t ht⟩
    · rcases Nat.lt_or_ge i l.toArray.size with h | h
      · simpa using b10 i (List.mem_range.2 h)
      · rw [show (Array.replicate l.toArray.size false).getD i true = true by simp [Nat.not_lt.2 (by simpa using h)]] at hi; cases hi
    · exact getD_in (by simpa using hlt i hi) (getD_replicate_false _ _)
  have := wpAny_hw (P := P) (Q := NoPanic Q) (S := S) b1 b2 b3 b4 b5 (fun _ _ _ _ _ h => h) hRr hRt hSg f hs ts _ a w.drew (by omega) R hS h
  rw [← hf] at this
  exact this
theorem tailR_one {n t : Nat} {ts ts' : List Nat} {o : Oper} {a : Act} {w : World} (hr : readyT md ops ts = [t]) (he : ts.erase t = ts') (ho : ops[t]? = some o)
    (h : ∀ W, Rl w W → wpList P ops (Thn Q fun a' w' => S w' ∧ tailR P md ops Q S Rl (n + 1) ts' a' w') [o] a W) : tailR P md ops Q S Rl (n + 2) ts a w := by
  intro W hW u hu
  rw [hr, List.mem_singleton] at hu
  subst hu
  rw [he]
  exact wpOp_of_list ho (h W hW)
theorem tailR_two {n t t' : Nat} {ts ts1 ts2 : List Nat} {o o' : Oper} {a : Act} {w : World} (hr : readyT md ops ts = [t, t']) (he : ts.erase t = ts1) (he' : ts.erase t' = ts2) (ho : ops[t]? = some o) (ho' : ops[t']? = some o')
    (h : ∀ W, Rl w W → wpList P ops (Thn Q fun a' w' => S w' ∧ tailR P md ops Q S Rl (n + 1) ts1 a' w') [o] a W) (h' : ∀ W, Rl w W → wpList P ops (Thn Q fun a' w' => S w' ∧ tailR P md ops Q S Rl (n + 1) ts2 a' w') [o'] a W) : tailR P md ops Q S Rl (n + 2) ts a w := by
  intro W hW u hu
  rw [hr] at hu
  simp only [List.mem_cons, List.not_mem_nil, or_false] at hu
  rcases hu with rfl | rfl
  · rw [he]; exact wpOp_of_list ho (h W hW)
  · rw [he']; exact wpOp_of_list ho' (h' W hW)
theorem tailR_last {t : Nat} {ts : List Nat} {o : Oper} {a : Act} {w : World} (hr : readyT md ops ts = [t]) (ho : ops[t]? = some o) (h : ∀ W, Rl w W → wpList P ops Q [o] a W) : tailR P md ops Q S Rl 1 ts a w := by
  intro W hW u hu
  rw [hr, List.mem_singleton] at hu
  subst hu
  exact tailW_last (S := fun _ => True) ho (h W hW)
theorem canonR_read {L : Act → Prop} {i : Nat} {o : Oper} {v : Value} {hs : List Nat} {a : Act} (ho : ops[i]? = some o) (hw : Region.wanted o (yielded ops a.tmps) = true)
    (h : ∀ w, S w → (execOp a.eval o).run P w = .ok (.value v) w) (hr : canonR P ops S Rl L hs (a.put o.dst v)) : canonR P ops S Rl L (i :: hs) a :=
  ⟨o, v, ho, .inl ⟨hw, fun w hS => by unfold Oper.quietAt; rw [h w hS]; exact ⟨rfl, rfl⟩⟩, hr⟩
theorem canonR_call {L : Act → Prop} {i : Nat} {o : Oper} {v : Value} {hs : List Nat} {a : Act} {f : FuncId} {args : Array Value} (ho : ops[i]? = some o) (hw : Region.wanted o (yielded ops a.tmps) = true)
    (h : ∀ w, S w → (execOp a.eval o).run P w = .ok (.enter f args) w) (hc : ∀ w, S w → Calls P f args w fun e w' => e = .returned v ∧ Rl w w') (hr : canonR P ops S Rl L hs (a.put o.dst v)) : canonR P ops S Rl L (i :: hs) a :=
  ⟨o, v, ho, .inl ⟨hw, fun w hS => by unfold Oper.quietAt; rw [h w hS]; exact ⟨rfl, hc w hS⟩⟩, hr⟩
theorem canonR_skip {L : Act → Prop} {i : Nat} {o : Oper} {hs : List Nat} {a : Act} (ho : ops[i]? = some o) (hw : Region.wanted o (yielded ops a.tmps) = false) (hr : canonR P ops S Rl L hs (a.put o.dst undef)) : canonR P ops S Rl L (i :: hs) a :=
  ⟨o, undef, ho, .inr ⟨hw, rfl⟩, hr⟩
theorem canonR_nil {L : Act → Prop} {a : Act} (h : L a) : canonR P ops S Rl L [] a := h
end
end Go.Proofs.YtnlhllleipemlaaGreatDoor

namespace Go.Proofs.YtnlhllleipemlaaGreatDoor
open Go.RowKit Go.Sort

/-- How much an entry has seen. -/
def age (e : Ent) : Int := e.2.2.1.1 + e.2.2.1.2.1 + e.2.2.1.2.2
/-- What an entry has seen lies in bounds. -/
def tame (e : Ent) : Prop := (0 ≤ e.2.2.1.1 ∧ e.2.2.1.1 ≤ 60) ∧ (0 ≤ e.2.2.1.2.1 ∧ e.2.2.1.2.1 ≤ 60) ∧ (0 ≤ e.2.2.1.2.2 ∧ e.2.2.1.2.2 ≤ 60)
abbrev ebox (e : Ent) : Obj := .cells #[.int .i64 e.1, .int .i64 e.2.1, .int .i64 e.2.2.1.1, .int .i64 e.2.2.1.2.1, .int .i64 e.2.2.1.2.2, .string e.2.2.2] 48
theorem sum_any (e : Ent) (w : World) (h : tame e) : Calls Tryz.prog 85 #[eval_ e] w fun r w' => r = .returned (.int .i64 (age e)) ∧ w' = w.alloc (ebox e) := by
  obtain ⟨p, q, ⟨a, b, c⟩, t⟩ := e
  obtain ⟨⟨a0, a1⟩, ⟨b0, b1⟩, ⟨c0, c1⟩⟩ := h
  dsimp only at a0 a1 b0 b1 c0 c1
  have v1 : IntKind.i64.wrap (a + b) = a + b := IntWalk.i64_in _ (by omega)
  have v2 : IntKind.i64.wrap (a + b + c) = a + b + c := IntWalk.i64_in _ (by omega)
  clear a0 a1 b0 b1 c0 c1
  go_enter Tryz.func85, Tryz.ntmps85
  dsimp only [eval_]
  have Y0 := fun w' => ix35 w.heap.size 2 0 (by omega) w'
  have Y1 := fun w' => ix35 w.heap.size 2 1 (by omega) w'
  have Y2 := fun w' => ix35 w.heap.size 2 2 (by omega) w'
  have cB := (Box.new w #[.int .i64 p, .int .i64 q, .int .i64 a, .int .i64 b, .int .i64 c, .string t] 48).at
  go_wp2_with fail
  go_ret
  exact ⟨rfl, rfl⟩
theorem age_any (e : Ent) (w : World) (h : tame e) : Calls Tryz.prog 58 #[eval_ e] w fun r w' => r = .returned (.int .i64 (age e)) ∧ w' = w.alloc (ebox e) := by
  obtain ⟨p, q, ⟨a, b, c⟩, t⟩ := e
  obtain ⟨⟨a0, a1⟩, ⟨b0, b1⟩, ⟨c0, c1⟩⟩ := h
  dsimp only at a0 a1 b0 b1 c0 c1
  have v1 : IntKind.i64.wrap (a + b) = a + b := IntWalk.i64_in _ (by omega)
  have v2 : IntKind.i64.wrap (a + b + c) = a + b + c := IntWalk.i64_in _ (by omega)
  clear a0 a1 b0 b1 c0 c1
  go_enter Tryz.func58, Tryz.ntmps58
  dsimp only [eval_]
  have Y0 := fun w' => ix35 w.heap.size 2 0 (by omega) w'
  have Y1 := fun w' => ix35 w.heap.size 2 1 (by omega) w'
  have Y2 := fun w' => ix35 w.heap.size 2 2 (by omega) w'
  have cB := (Box.new w #[.int .i64 p, .int .i64 q, .int .i64 a, .int .i64 b, .int .i64 c, .string t] 48).at
  go_wp2_with fail
  go_ret
  exact ⟨rfl, rfl⟩
/-- The comparison. -/
def cmpO (x y : Ent) : Int := or0 [cmpI (age x) (age y), cmpI x.1 y.1]
/-- What the comparison reads: the list, and the variable that holds it. -/
structure Ord1 (q : Nat) (A : Option Addr) (n c : Nat) (x y : Ent) (i j : Nat) (ad : Addr) (w : World) : Prop where
  box : ∀ k, w.cell? ⟨q, k, none⟩ = (#[Value.slice A n c] : Array Value)[k]?
  x0 : w.cell? (ad.add (i * 6)) = some (.int .i64 x.1)
  x1 : w.cell? ⟨(ad.add (i * 6)).block, (ad.add (i * 6)).off + 1, none⟩ = some (.int .i64 x.2.1)
  x2 : w.cell? ⟨(ad.add (i * 6)).block, (ad.add (i * 6)).off + 2, none⟩ = some (.int .i64 x.2.2.1.1)
  x3 : w.cell? ⟨(ad.add (i * 6)).block, (ad.add (i * 6)).off + 3, none⟩ = some (.int .i64 x.2.2.1.2.1)
  x4 : w.cell? ⟨(ad.add (i * 6)).block, (ad.add (i * 6)).off + 4, none⟩ = some (.int .i64 x.2.2.1.2.2)
  x5 : w.cell? ⟨(ad.add (i * 6)).block, (ad.add (i * 6)).off + 5, none⟩ = some (.string x.2.2.2)
  y0 : w.cell? (ad.add (j * 6)) = some (.int .i64 y.1)
  y1 : w.cell? ⟨(ad.add (j * 6)).block, (ad.add (j * 6)).off + 1, none⟩ = some (.int .i64 y.2.1)
  y2 : w.cell? ⟨(ad.add (j * 6)).block, (ad.add (j * 6)).off + 2, none⟩ = some (.int .i64 y.2.2.1.1)
  y3 : w.cell? ⟨(ad.add (j * 6)).block, (ad.add (j * 6)).off + 3, none⟩ = some (.int .i64 y.2.2.1.2.1)
  y4 : w.cell? ⟨(ad.add (j * 6)).block, (ad.add (j * 6)).off + 4, none⟩ = some (.int .i64 y.2.2.1.2.2)
  y5 : w.cell? ⟨(ad.add (j * 6)).block, (ad.add (j * 6)).off + 5, none⟩ = some (.string y.2.2.2)
theorem Ord1.below {q : Nat} {A : Option Addr} {n c : Nat} {x y : Ent} {i j : Nat} {ad : Addr} {w w' : World} (h : Ord1 q A n c x y i j ad w) (hq : q < w.heap.size) (hb : Below w.heap.size w w') : Ord1 q A n c x y i j ad w' := by
  have k : ∀ (a : Addr) (v : Value), w.cell? a = some v → w'.cell? a = some v := fun a v h => (hb.cell (World.block_lt_of_cell? _ _ h)).trans h
  refine ⟨fun k => ?_, k _ _ h.x0, k _ _ h.x1, k _ _ h.x2, k _ _ h.x3, k _ _ h.x4, k _ _ h.x5, k _ _ h.y0, k _ _ h.y1, k _ _ h.y2, k _ _ h.y3, k _ _ h.y4, k _ _ h.y5⟩
  rw [hb.cell (p := ⟨q, k, none⟩) hq]
  exact h.box k
/-- A world with draws and new memory. -/
def Gr (w w' : World) : Prop := ∃ k os, w' = grow (w.drewN k) os
theorem Gr.refl (w : World) : Gr w w := ⟨0, #[], by rw [grow_empty]; rfl⟩
theorem Gr.trans {u v w : World} : Gr u v → Gr v w → Gr u w := by
  rintro ⟨k, os, rfl⟩ ⟨k', os', rfl⟩
  exact ⟨k + k', os ++ os', by rw [show (grow (u.drewN k) os).drewN k' = grow (u.drewN (k + k')) os from by simp [grow, World.drewN, Nat.add_assoc], grow_grow]⟩
theorem Gr.alloc (w : World) (o : Obj) : Gr w (w.alloc o) := ⟨0, #[o], alloc_eq_grow w o⟩
theorem Gr.drew (w : World) : Gr w w.drew := ⟨1, #[], by rw [grow_empty]; rfl⟩
theorem Gr.below {w w' : World} (h : Gr w w') : Below w.heap.size w w' := by
  obtain ⟨k, os, rfl⟩ := h
  exact below_drewGrow w k os
set_option maxRecDepth 100000 in
set_option maxHeartbeats 8000000 in
theorem order1_grow (q : Nat) (A : Option Addr) (n c : Nat) (es : List Ent) (i j : Nat) (x y : Ent) (w : World) (hb : Box w q #[.slice A n c]) (hl : Reads w w.heap.size 6 A n (ents es)) (hi : i < n) (hj : j < n) (hx : es[i]? = some x) (hy : es[j]? = some y) (tx : tame x) (ty : tame y) :
    Calls Tryz.prog 84 #[.int .i64 i, .int .i64 j, .pointer (some ⟨q, 0, none⟩)] w fun r w' => r = .returned (.int .i64 (cmpO x y)) ∧ ∃ q os', w' = grow (w.drewN q) os' := by
  obtain ⟨ad, x', e1, _, hx', d0, d1, d2, d3, d4, d5⟩ := eat hl (k := i) (List.getElem?_eq_some_iff.1 hx).1
  obtain rfl : x = x' := Option.some.inj (hx.symm.trans hx')
  obtain ⟨ad', y', e1', _, hy', q0, q1, q2, q3, q4, q5⟩ := eat hl (k := j) (List.getElem?_eq_some_iff.1 hy).1
  obtain rfl : y = y' := Option.some.inj (hy.symm.trans hy')
  obtain rfl : ad = ad' := Option.some.inj (e1.symm.trans e1')
  have X := fun w => ix22 (n := n) (c := c) e1 hi w
  have Y := fun w => ix22 (n := n) (c := c) e1 hj w
  have TX := Lib.hid tx
  have TY := Lib.hid ty
  have bq := hb.1
  have c0 := hb.at
  clear hx hy hx' hy' e1 e1' hl hi hj tx ty
  go_enter Tryz.func84, Tryz.ntmps84
  go_wp2_with fail
  have H0 : Ord1 q A n c x y i j ad w := ⟨c0, d0, d1, d2, d3, d4, d5, q0, q1, q2, q3, q4, q5⟩
  clear c0 d0 d1 d2 d3 d4 d5 q0 q1 q2 q3 q4 q5 hb
  refine wp_region_hw [0, 1, 2, 3, 4, 5, 6, 7, 8, 9, 10, 11, 12, 13, 14, 15, 16, 17, 18, 19, 20, 21] [22, 23, 24] (fun W => Ord1 q A n c x y i j ad W ∧ q < W.heap.size) mixed (by kernel_rfl) Gr.refl (fun _ _ _ h1 h2 => h1.trans h2) (fun W W' h hg => ⟨h.1.below h.2 hg.below, Nat.lt_of_lt_of_le h.2 hg.below.size⟩) ⟨H0.below bq (below_drewN' (Below.refl _ _) 1), bq⟩ ?_
  iterate 4
    refine canonR_read (v := ?_) rfl (by rfl) ?_ ?_
    rotate_left
    · intro w hSw
      obtain ⟨⟨s0, s1, s2, s3, s4, s5, s6, s7, s8, s9, sa, sb, sc⟩, _⟩ := hSw
      go_simp <;> with_reducible rfl
    simp only [List.getElem_toArray, List.getElem_cons_zero, List.getElem_cons_succ, Act.put, List.setIfInBounds_toArray, List.set_cons_succ, List.set_cons_zero]
  refine canonR_call (v := .int .i64 (age x)) (f := 85) (args := #[eval_ x]) rfl (by rfl) ?_ ?_ ?_
  · intro w hSw
    go_simp
  · intro w hSw
    exact (sum_any x w TX.out).mono fun r w' ⟨h1, h2⟩ => ⟨h1, h2 ▸ Gr.alloc _ _⟩
  simp only [List.getElem_toArray, List.getElem_cons_zero, List.getElem_cons_succ, Act.put, List.setIfInBounds_toArray, List.set_cons_succ, List.set_cons_zero]
  iterate 4
    refine canonR_read (v := ?_) rfl (by rfl) ?_ ?_
    rotate_left
    · intro w hSw
      obtain ⟨⟨s0, s1, s2, s3, s4, s5, s6, s7, s8, s9, sa, sb, sc⟩, _⟩ := hSw
      go_simp <;> with_reducible rfl
    simp only [List.getElem_toArray, List.getElem_cons_zero, List.getElem_cons_succ, Act.put, List.setIfInBounds_toArray, List.set_cons_succ, List.set_cons_zero]
  refine canonR_call (v := .int .i64 (age y)) (f := 85) (args := #[eval_ y]) rfl (by rfl) ?_ ?_ ?_
  · intro w hSw
    go_simp
  · intro w hSw
    exact (sum_any y w TY.out).mono fun r w' ⟨h1, h2⟩ => ⟨h1, h2 ▸ Gr.alloc _ _⟩
  simp only [List.getElem_toArray, List.getElem_cons_zero, List.getElem_cons_succ, Act.put, List.setIfInBounds_toArray, List.set_cons_succ, List.set_cons_zero]
  refine canonR_call (v := .int .i64 (cmpI (age x) (age y))) (f := 50) (args := #[.int .i64 (age x), .int .i64 (age y)]) rfl (by rfl) ?_ ?_ ?_
  · intro w hSw
    go_simp
  · intro w hSw
    exact (cmpI_any _ _ w).mono fun r w' ⟨h1, h2⟩ => ⟨h1, h2 ▸ Gr.refl _⟩
  simp only [List.getElem_toArray, List.getElem_cons_zero, List.getElem_cons_succ, Act.put, List.setIfInBounds_toArray, List.set_cons_succ, List.set_cons_zero]
  iterate 10
    refine canonR_read (v := ?_) rfl (by rfl) ?_ ?_
    rotate_left
    · intro w hSw
      obtain ⟨⟨s0, s1, s2, s3, s4, s5, s6, s7, s8, s9, sa, sb, sc⟩, _⟩ := hSw
      go_simp <;> with_reducible rfl
    simp only [List.getElem_toArray, List.getElem_cons_zero, List.getElem_cons_succ, Act.put, List.setIfInBounds_toArray, List.set_cons_succ, List.set_cons_zero]
  refine canonR_call (v := .int .i64 (cmpI x.1 y.1)) (f := 50) (args := #[.int .i64 x.1, .int .i64 y.1]) rfl (by rfl) ?_ ?_ ?_
  · intro w hSw
    go_simp
  · intro w hSw
    exact (cmpI_any _ _ w).mono fun r w' ⟨h1, h2⟩ => ⟨h1, h2 ▸ Gr.refl _⟩
  simp only [List.getElem_toArray, List.getElem_cons_zero, List.getElem_cons_succ, Act.put, List.setIfInBounds_toArray, List.set_cons_succ, List.set_cons_zero]
  refine canonR_nil ?_
  refine tailR_one (t := 22) (ts' := [23, 24]) (by kernel_rfl) rfl rfl ?_
  intro w6 hb6
  have HG6 := Lib.hid ((Gr.drew w).trans hb6)
  have HS6 := Lib.hid (H0.below bq HG6.out.below)
  have hq6 : q < w6.heap.size := Nat.lt_of_lt_of_le bq HG6.out.below.size
  clear hb6 H0
  go_wp2_with fail
  have HG7 := Lib.hid (HG6.out.trans (Gr.alloc w6 (.cells #[.int .i64 (cmpI (age x) (age y)), .int .i64 (cmpI x.1 y.1)] 3)))
  have HR7 := Lib.hid (reads_new w6 (ints [cmpI (age x) (age y), cmpI x.1 y.1]) 3 1 2 rfl)
  refine ⟨⟨HS6.out.below hq6 (belowA _ _), by rw [World.size_alloc]; omega⟩, ?_⟩
  refine tailR_one (t := 23) (ts' := [24]) (by kernel_rfl) rfl rfl ?_
  intro w8 hb8
  have HG8 := Lib.hid (HG7.out.trans hb8)
  have HR8 := Lib.hid (HR7.out.on hb8.below)
  have HS8 := Lib.hid (HS6.out.below hq6 (belowA w6 (.cells #[.int .i64 (cmpI (age x) (age y)), .int .i64 (cmpI x.1 y.1)] 3)))
  have HS9 := Lib.hid (HS8.out.below (by rw [World.size_alloc]; omega) hb8.below)
  have hq8 : q < w8.heap.size := Nat.lt_of_lt_of_le (by rw [World.size_alloc]; omega) hb8.below.size
  clear hb8
  go_wp2_with fail
  with_reducible refine (or_any _ 2 2 [cmpI (age x) (age y), cmpI x.1 y.1] _ HR8.out (by omega)).mono ?_
  rintro _ w9 ⟨rfl, rfl⟩
  go_wp2_with fail
  refine ⟨⟨HS9.out, hq8⟩, ?_⟩
  refine tailR_last (t := 24) (by kernel_rfl) rfl ?_
  intro w10 hb10
  have HG10 := Lib.hid (HG8.out.trans hb10)
  clear hb10
  go_wp2_with fail
  refine NoPanic.normal ?_
  go_wp2_with fail
  go_ret
  exact ⟨rfl, HG10.out⟩
end Go.Proofs.YtnlhllleipemlaaGreatDoor

namespace Go.Proofs.YtnlhllleipemlaaGreatDoor
open Go.RowKit Go.Sort Go.Shelf

/-- One entry comes ahead of another one: it has seen less, or as much, at a lesser place. -/
def aheadE (x y : Ent) : Prop := age x < age y ∨ (age x = age y ∧ x.1 < y.1)
instance (x y : Ent) : Decidable (aheadE x y) := inferInstanceAs (Decidable (_ ∨ _))
theorem cmpO_neg (x y : Ent) : cmpO x y < 0 ↔ aheadE x y := by
  unfold cmpO aheadE or0 cmpI
  by_cases h1 : age x < age y
  · simp [h1]
  · by_cases h2 : age y < age x
    · simp [h1, h2]; omega
    · have h3 : age x = age y := by omega
      by_cases h4 : x.1 < y.1
      · simp [h3, h4]
      · by_cases h5 : y.1 < x.1
        · simp [h3, h4, h5]
        · simp [h3, h4, h5]
section
variable {α : Type} [Inhabited α] {enc : α → Value}
theorem sortWorld_one (w : World) (g m : Nat) (d : Array α) (os : Array Obj) : sortWorld enc w g 0 m d os = sortWorldK (fun x => [enc x]) 1 w g 0 m d os := by
  unfold sortWorld sortWorldK putRowK putRow
  congr 2
  funext c
  unfold putCells
  congr 1
  funext k x
  have hs : (flatK (fun x => [enc x]) 1 d).size = d.size := by rw [size_flatK]; omega
  rw [hs]
  by_cases hk : k < d.size
  · rw [if_pos (by omega), if_pos (by omega)]
    show enc d[k - 0]! = id (flatK (fun x => [enc x]) 1 d)[k - 0]!
    rw [Nat.sub_zero, get_flatK _ _ _ _ (by omega), Nat.div_one, Nat.mod_one]
    rfl
  · rw [if_neg (by omega), if_neg (by omega)]
theorem holds_one {w : World} {g : Nat} {d : Array α} (h : HoldsK (fun x => [enc x]) 1 w g 0 d) : Holds enc w g 0 d := by
  intro j hj
  have hs : (flatK (fun x => [enc x]) 1 d).size = d.size := by rw [size_flatK]; omega
  have := h j (by omega)
  rw [get_flatK _ _ _ _ (by omega), Nat.div_one, Nat.mod_one] at this
  exact this
omit [Inhabited α] in
theorem flat_one (l : List α) : l.flatMap (fun x => [enc x]) = l.map enc := by
  induction l with
  | nil => rfl
  | cons a l ih => rw [List.flatMap_cons, ih]; rfl
end
theorem Reads.grown {w w' : World} {size n g : Nat} {A : Option Addr} {xs : List Value} (h : Reads w w.heap.size size A n xs) (hg : w.grownBy w' (some g)) (hne : ∀ p, A = some p → p.block ≠ g) : Reads w' w'.heap.size size A n xs := by
  refine ⟨h.1, fun h0 => ?_⟩
  obtain ⟨p, hp, hb, hc⟩ := h.2 h0
  refine ⟨p, hp, Nat.lt_of_lt_of_le hb hg.size, fun j u hj => ?_⟩
  have hk : (p.add j).block = p.block := blockAdd p j
  rw [World.cell?_of_block (a := p.add j) (hg.block _ (by rw [hk]; exact hb) (by rw [hk]; exact fun e => hne p hp (Option.some.inj e)))]
  exact hc j u hj
theorem extract_whole {α : Type} {d : Array α} {n : Nat} (h : d.size = n) : d.extract 0 n = d := by subst h; simp
theorem map_val_finRange (n : Nat) : (List.finRange n).map Fin.val = List.range n := by
  apply List.ext_getElem
  · simp
  · intro i h1 h2; simp
set_option maxRecDepth 100000 in
theorem sortO_any {bl : Nat} (q : Nat) (A : Option Addr) (n c : Nat) (es : List Ent) (g cap : Nat) (w : World) (hb : Box w q #[.slice A n c]) (hl : Reads w w.heap.size 6 A n (ents es)) (hA : ∀ p, A = some p → p.block ≠ g) (hq : q ≠ g)
    (h : w.ownsRow bl 3 1 (.slice (some ⟨g, 0, none⟩) n cap) n (ints ((List.range n).map Int.ofNat))) (ht : ∀ e ∈ es, tame e) (hn : 0 < n) (hn2 : n ≤ 1000000) :
    Calls Tryz.prog 83 #[.slice (some ⟨g, 0, none⟩) n cap, .func (.func 84) #[] #[.pointer (some ⟨q, 0, none⟩)]] w fun r w' => r = .returned (.tuple #[]) ∧
      ∃ js : List Nat, js.Perm (List.range n) ∧ (js.Pairwise fun i j => ∀ x y, es[i]? = some x → es[j]? = some y → ¬ aheadE y x) ∧ w'.ownsRow bl 3 1 (.slice (some ⟨g, 0, none⟩) n cap) n (ints (js.map Int.ofNat)) ∧ w.grownBy w' (some g) := by
  have hlen := hl.1
  rw [ents_length] at hlen
  have hle : es.length = n := by omega
  letI : Inhabited (Fin n) := ⟨⟨0, hn⟩⟩
  let enc : Fin n → Value := fun i => .int .i64 (i.val : Int)
  have hge : ∀ i : Fin n, ∃ x, es[i.val]? = some x := fun i => ⟨_, List.getElem?_eq_getElem (by have := i.isLt; omega)⟩
  let ent : Fin n → Ent := fun i => es[i.val]'(by have := i.isLt; omega)
  have hent : ∀ i : Fin n, es[i.val]? = some (ent i) := fun i => List.getElem?_eq_getElem _
  let cf : Fin n → Fin n → Int := fun i j => cmpO (ent i) (ent j)
  have hcf : ∀ i j, ltOf cf i j = decide (aheadE (ent i) (ent j)) := fun i j => by
    unfold ltOf
    rw [decide_eq_decide]
    exact cmpO_neg _ _
  have hO : SWO (ltOf cf) := by
    refine ⟨fun x => ?_, fun x y z h1 h2 => ?_, fun x y z h1 h2 => ?_⟩
    · rw [hcf]; simp [aheadE]
    · rw [hcf] at *; simp only [decide_eq_true_eq] at *; unfold aheadE at *; omega
    · rw [hcf] at *; simp only [decide_eq_false_iff_not] at *; unfold aheadE at *; omega
  rcases h.2 with ⟨hv, h0⟩ | ⟨g', cap', cur, hv, hbb, hh, hnc, hcm, hcs, hct⟩
  · cases hv
  injection hv with e1 e2 e3
  injection e1 with e1
  injection e1 with e1
  subst e1 e3
  have hgw : g < w.heap.size := (Array.getElem?_eq_some_iff.1 hh).1
  have hd : (List.finRange n).flatMap (fun x => [enc x]) = ints ((List.range n).map Int.ofNat) := by
    rw [flat_one, ← map_val_finRange]
    simp [ints, enc]
  have hK : HoldsK (fun x => [enc x]) 1 w g 0 (List.finRange n).toArray := holdsK_of_row (enc := fun x => [enc x]) (k := 1) (l := List.finRange n) (fun _ => rfl) hh (by rw [hd, ← hct, List.length_finRange])
  have hcmp : CmpLays1 Tryz.prog 84 #[.pointer (some ⟨q, 0, none⟩)] enc cf g 0 (List.finRange n).toArray.size w := by
    intro m os dk hs i j
    rw [sortWorld_one]
    have hg := grownBy_sortedK (enc := fun x => [enc x]) (k := 1) (w := w) (g := g) (n := m) (os := os) dk
    exact order1_grow q A n c es i.val j.val (ent i) (ent j) _ (hb.grown hg fun k e => by cases e; exact fun h => hq h.symm) (hl.grown hg hA) i.isLt j.isLt (hent i) (hent j) (ht _ (List.mem_of_getElem? (hent i))) (ht _ (List.mem_of_getElem? (hent j)))
  have hs := Any.slices_SortFunc sortLayI enc (fun _ => rfl) cf hO 84 #[.pointer (some ⟨q, 0, none⟩)] g 0 cap (List.finRange n).toArray w (enters_of Tryz.func84 (by kernel_rfl) rfl) hcmp (holds_one hK) hgw (by simp; omega)
  have hsz : (List.finRange n).toArray.size = n := by simp
  rw [hsz] at hs
  refine hs.mono fun r w' ⟨h1, d', m, os, hp, hso, hw⟩ => ⟨h1, d'.toList.map Fin.val, ?_, ?_, ?_, ?_⟩
  · obtain ⟨p1, _, p3⟩ := hp
    rw [extract_whole (p1.trans hsz), extract_whole hsz] at p3
    have := p3.map Fin.val
    rw [List.toList_toArray, map_val_finRange] at this
    exact this
  · have q1 : d'.size = n := by rw [hp.1, hsz]
    rw [List.pairwise_map, List.pairwise_iff_getElem]
    intro i j hi hj hij x y hx hy
    have := hso i j (Nat.zero_le _) hij (by simpa [q1] using hj)
    rw [hcf, decide_eq_false_iff_not] at this
    simp only [Array.length_toList] at hi hj
    rw [getElem!_pos d' j hj, getElem!_pos d' i hi] at this
    simp only [Array.getElem_toList] at hx hy
    rw [hent] at hx hy
    obtain rfl := Option.some.inj hx
    obtain rfl := Option.some.inj hy
    exact this
  · rw [hw, sortWorld_one]
    have := ownsRow_sortedK (enc := fun x => [enc x]) (k := 1) (fun _ => rfl) (w := w) (base := bl) (g := g) (cap := cap) (m := m) (e := 3) (os := os) (l := List.finRange n) (t := d'.toList) (by rw [Array.length_toList, hp.1]; simp) hbb hh (by simpa using hnc) hcm hcs
    rw [List.length_finRange, flat_one] at this
    rw [show ints ((d'.toList.map Fin.val).map Int.ofNat) = d'.toList.map enc by simp [ints, enc]]
    exact this
  · rw [hw, sortWorld_one]; exact grownBy_sortedK _
end Go.Proofs.YtnlhllleipemlaaGreatDoor

namespace Go.Proofs.YtnlhllleipemlaaGreatDoor
open Go.RowKit Go.Sort

theorem info3b : (Tryz.prog.info? 3).map (fun i => (i.zero, i.size, i.bytes)) = some (some (.int .i64 0), 1, 8) := by kernel_rfl
theorem madeCells_zero (n : Nat) : (madeCells #[.int .i64 0] n).toList = ints (List.replicate n 0) := by
  apply List.ext_getElem?
  intro i
  simp [madeCells, ints, List.getElem?_replicate]
  by_cases h : i < n <;> simp [h, Nat.mod_one]
theorem mk46 (n : Nat) (hn : n ≤ 1000000) (w : World) : (Instr.makeSlice 67 (.int .i64 (n : Int)) (.int .i64 (n : Int))).run Tryz.prog w = .ok (.slice (some ⟨w.heap.size, 0, none⟩) n n) (w.alloc (.cells (madeCells #[.int .i64 0] n) 3)) := by
  obtain ⟨i0, hi, hz0, hz1, hz2⟩ := info_parts info3b
  have h := run_make (P := Tryz.prog) w 67 3 i0 _ Tryz.underlying67 hi hz0 .i64 .i64 n n (by omega) (Int.le_refl _) (by rw [hz2]; omega) (by omega)
  rw [hz1, Int.toNat_natCast, Nat.mul_one] at h
  exact h
theorem row_zero (w : World) (n : Nat) (hn : n ≤ 1000000) {base : Nat} (hb : base ≤ w.heap.size) : (w.alloc (.cells (madeCells #[.int .i64 0] n) 3)).ownsRow base 3 1 (.slice (some ⟨w.heap.size, 0, none⟩) n n) n (ints (List.replicate n 0)) := by
  have := World.ownsRow_lit (base := base) (e := 3) (size := 1) w (madeCells #[.int .i64 0] n) n hb (by unfold maxLen; omega) (by rw [size_madeCells]; omega)
  rwa [madeCells_zero] at this
/-- The numbers as far as they are laid. -/
def upL (n k : Nat) : List Int := (List.range n).map fun i => if i < k then (i : Int) else 0
theorem upL_zero (n : Nat) : upL n 0 = List.replicate n 0 := by
  apply List.ext_getElem?
  intro i
  simp [upL, List.getElem?_replicate]
  by_cases h : i < n <;> simp [h]
theorem upL_full (n : Nat) : upL n n = (List.range n).map Int.ofNat := by
  apply List.map_congr_left
  intro i hi
  rw [if_pos (List.mem_range.1 hi)]
  rfl
theorem upL_length (n k : Nat) : (upL n k).length = n := by simp [upL]
theorem upL_set {n k : Nat} (h : k < n) : (ints (upL n k)).set k (.int .i64 (k : Int)) = ints (upL n (k + 1)) := by
  apply List.ext_getElem?
  intro i
  rw [List.getElem?_set]
  simp only [ints, upL, List.getElem?_map, List.length_map, List.length_range]
  by_cases h1 : k = i
  · subst h1
    simp [h]
  · rw [if_neg h1]
    by_cases h2 : i < n
    · simp only [List.getElem?_range h2, Option.map_some]
      by_cases h3 : i < k
      · rw [if_pos h3, if_pos (by omega)]
      · rw [if_neg h3, if_neg (by omega)]
    · rw [List.getElem?_eq_none (by simpa using h2)]
      rfl
theorem ix46 {A : Option Addr} {ad : Addr} {n c k : Nat} (h : A = some ad) (hk : k < n) (w : World) : (Instr.indexAt 67 (.slice A n c) (.int .i64 (k : Int))).run Tryz.prog w = .ok (.pointer (some (ad.add k))) w := by
  subst h
  have h0 : (0 : Int) ≤ (k : Int) ∧ (k : Int) < (n : Int) := by omega
  have hs : (sizeOf (Tryz.prog.elem 67)).run Tryz.prog w = .ok 1 w := by kernel_rfl
  rw [run_indexAt_slice w 67 ad n c .i64 k (by kernel_rfl), if_pos h0, hs]
  simp [Result.andThen]
theorem sortI_none (A : Option Addr) (c : Nat) (f : Value) (w : World) : Calls Tryz.prog 83 #[.slice A 0 c, f] w fun r w' => r = .returned (.tuple #[]) ∧ w' = w :=
  AnyF.slices_SortFunc_none (ρ := sortLayI_ren) { sortLayI with } A c f w
/-- A list of numbers of entries, each one not behind those that come later. -/
def Ordd (es : List Ent) (js : List Nat) : Prop := js.Perm (List.range es.length) ∧ js.Pairwise fun i j => ∀ x y, es[i]? = some x → es[j]? = some y → ¬ aheadE y x
set_option maxRecDepth 100000 in
set_option maxHeartbeats 4000000 in
theorem order_any (A : Option Addr) (n c : Nat) (es : List Ent) (w : World) (hl : Reads w w.heap.size 6 A n (ents es)) (hn : n ≤ 1000000) (ht : ∀ e ∈ es, tame e) :
    Calls Tryz.prog 51 #[.slice A n c] w fun r w' => ∃ A' c' js, r = .returned (.slice A' n c') ∧ Ordd es js ∧ w'.ownsRow w.heap.size 3 1 (.slice A' n c') n (ints (js.map Int.ofNat)) ∧ Below w.heap.size w w' := by
  have hlen := hl.1
  rw [ents_length] at hlen
  have hle : es.length = n := by omega
  have HL := Lib.hid hl
  have HT := Lib.hid ht
  have HLE := Lib.hid hle
  clear hl ht hlen hle
  have M := fun w => mk46 n hn w
  have b0 := Box.new w #[.slice A n c] 23
  have c0 := fun o => (b0.alloc o).at
  have c00 := b0.at
  go_enter Tryz.func51, Tryz.ntmps51
  go_wp2_with fail
  have hr := row_zero (w.alloc (.cells #[.slice A n c] 23)) n hn (base := w.heap.size) (by simp)
  have hb := belowAA w (.cells #[.slice A n c] 23) (.cells (madeCells #[.int .i64 0] n) 3)
  replace b0 := b0.alloc (.cells (madeCells #[.int .i64 0] n) 3)
  rw [World.size_alloc] at hr
  clear c0 c00 M
  generalize (w.alloc (.cells #[.slice A n c] 23)).alloc (.cells (madeCells #[.int .i64 0] n) 3) = w1 at hr hb b0 ⊢
  rw [← upL_zero] at hr
  have HR := Lib.hid hr
  have HB := Lib.hid hb
  clear hr hb
  have hg : w.heap.size + 1 < w1.heap.size := (HR.out.lt _ rfl).2
  go_loopw [4, 10] (fun _ i wr => ∃ k : Nat, k ≤ n ∧ i = .int .i64 k ∧ Box wr w.heap.size #[.slice A n c] ∧ wr.ownsRow w.heap.size 3 1 (.slice (some ⟨w.heap.size + 1, 0, none⟩) n n) n (ints (upL n k)) ∧ Below w.heap.size w wr) (fun _ i _ => n - (intOf i).toNat)
  case atStart => exact ⟨0, by omega, rfl, b0, HR.out, HB.out⟩
  case round =>
    clear b0 HR HB hg
    obtain ⟨k, hk, rfl, b0, hrow, hbw⟩ := hrel
    have HR := Lib.hid hrow
    have HBW := Lib.hid hbw
    clear hrow hbw
    by_cases hlt : k < n
    · have X := fun w' => ix46 (A := some ⟨w.heap.size + 1, 0, none⟩) (c := n) rfl hlt w'
      rw [Addr.add_lit, Nat.zero_add] at X
      obtain ⟨st, gr⟩ := HR.out.stored k (.int .i64 (k : Int))
      rw [upL_set hlt] at st
      have fz := HR.out.frozenAt k
      have cc := HR.out.cellAt k (by omega)
      have hcl : k < (ints (upL n k)).length := by rw [ints_length, upL_length]; exact hlt
      rw [List.getElem?_eq_getElem hcl] at cc
      obtain ⟨u, hu⟩ : ∃ u, wr.cell? ⟨w.heap.size + 1, k, none⟩ = some u := ⟨_, cc⟩
      clear cc hcl
      have HST := Lib.hid st
      have b1 := b0.grown gr (fun j e => by cases e; omega)
      have HB2 := Lib.hid (HBW.out.grown gr HBW.out.size fun j e => by cases e; omega)
      clear st gr b0
      go_wp2_with fail
      go_roundw
      case rel => exact ⟨k + 1, by omega, by go_num, b1, HST.out, HB2.out⟩
      case measure => simp [intOf]; omega
    · have hrow := HR.out
      rw [show k = n by omega, upL_full] at hrow
      replace HR := Lib.hid hrow
      clear hrow
      rcases Nat.eq_zero_or_pos n with h0 | h0
      · subst h0
        have HE : Hid (es = []) := Lib.hid (List.eq_nil_of_length_eq_zero HLE.out)
        go_wp2_with fail
        with_reducible refine (sortI_none (some ⟨w.heap.size + 1, 0, none⟩) 0 (.func (.func 84) #[] #[.pointer (some ⟨w.heap.size, 0, none⟩)]) wr).mono ?_
        rintro _ w' ⟨rfl, rfl⟩
        go_wp2_with fail
        go_ret
        exact ⟨_, _, [], rfl, by rw [HE.out]; exact ⟨List.Perm.refl _, List.Pairwise.nil⟩, HR.out, HBW.out⟩
      · go_wp2_with fail
        have hA : ∀ p, A = some p → p.block ≠ w.heap.size + 1 := fun p hp => by
          obtain ⟨p', hp', hb', _⟩ := HL.out.2 h0
          rw [hp] at hp'
          obtain rfl := Option.some.inj hp'
          omega
        with_reducible refine (sortO_any (bl := w.heap.size) w.heap.size A n c es (w.heap.size + 1) n wr b0 (HL.out.on HBW.out) hA (by omega) HR.out HT.out h0 hn).mono ?_
        rintro _ w' ⟨rfl, js, hp, hpw, hr, hg⟩
        have HP := Lib.hid (show Ordd es js from ⟨by rw [HLE.out]; exact hp, hpw⟩)
        have HR2 := Lib.hid hr
        have HB2 := Lib.hid (HBW.out.grown hg HBW.out.size fun j e => by cases e; omega)
        clear hp hpw hr hg b0
        go_wp2_with fail
        go_ret
        exact ⟨_, _, js, rfl, HP.out, HR2.out, HB2.out⟩
end Go.Proofs.YtnlhllleipemlaaGreatDoor

namespace Go.Proofs.YtnlhllleipemlaaGreatDoor
open Go.RowKit Go.Sort

instance : DecidableEq ByteArray := fun a b => decidable_of_iff (a.data = b.data) ⟨fun h => by cases a; cases b; simp at h; subst h; rfl, fun h => h ▸ rfl⟩
instance : DecidableEq Ent := by unfold Ent; infer_instance
instance (e : Ent) (l : List Ent) : Decidable (e ∈ l) := decidable_of_iff (∃ x ∈ l, x = e) ⟨fun ⟨_, h, h2⟩ => h2 ▸ h, fun h => ⟨e, h, rfl⟩⟩
theorem wrong_not {es : List Ent} {e : Ent} (h : ¬ wrong es e) :
    (∀ p : Nat, p < 3 → ((p : Int) = e.1 → e.sn p = e.2.1 - 1) ∧ 0 ≤ e.sn p ∧ e.sn p ≤ clk es p) ∧ ∀ f ∈ es, sawE e f = true → ∀ p : Nat, p < 3 → f.sn p ≤ e.sn p := by
  unfold wrong at h
  constructor
  · intro p hp
    have : ¬ badP es e p := fun hb => h (.inl ⟨p, hp, hb⟩)
    unfold badP at this
    omega
  · intro f hf hs p hp
    have : ¬ e.sn p < f.sn p := fun hlt => h (.inr ⟨f, hf, hs, p, hp, hlt⟩)
    omega
theorem wrong_intro {es : List Ent} {e : Ent} (h1 : ∀ p : Nat, p < 3 → ((p : Int) = e.1 → e.sn p = e.2.1 - 1) ∧ 0 ≤ e.sn p ∧ e.sn p ≤ clk es p) (h2 : ∀ f ∈ es, sawE e f = true → ∀ p : Nat, p < 3 → f.sn p ≤ e.sn p) : ¬ wrong es e := by
  rintro (⟨p, hp, hb⟩ | ⟨f, hf, hs, p, hp, hlt⟩)
  · have := h1 p hp
    unfold badP at hb
    omega
  · have := h2 f hf hs p hp
    omega
theorem sawE_iff {e f : Ent} : sawE e f = true ↔ f.2.1 ≤ e.sn f.1 := by unfold sawE; rw [decide_eq_true_eq]
section
variable {a b c x : List Ent}
theorem Card.place (h : Card c) {e : Ent} (he : e ∈ c) : ∃ p : Nat, p < 3 ∧ e.1 = p := by
  obtain ⟨h1, h2, _⟩ := h.txt e he
  exact ⟨e.1.toNat, by omega, by omega⟩
theorem Card.own (h : Card c) {e : Ent} (he : e ∈ c) : e.sn e.1 = e.2.1 - 1 := by
  obtain ⟨p, hp, hq⟩ := h.place he
  have := ((wrong_not (h.saw e he)).1 p hp).1 hq.symm
  rw [hq]; exact this
theorem Card.sn (h : Card c) {e : Ent} (he : e ∈ c) {p : Nat} (hp : p < 3) : 0 ≤ e.sn p ∧ e.sn p ≤ clk c p := ((wrong_not (h.saw e he)).1 p hp).2
theorem Card.up (h : Card c) {e f : Ent} (he : e ∈ c) (hf : f ∈ c) (hs : sawE e f = true) {p : Nat} (hp : p < 3) : f.sn p ≤ e.sn p := (wrong_not (h.saw e he)).2 f hf hs p hp
theorem Card.sorted (h : Card c) : c.Pairwise keyLt := Ord_sorted h.ord
/-- What was seen is on the card. -/
theorem Card.seen (h : Card c) {e : Ent} (he : e ∈ c) {p : Nat} (hp : p < 3) {s : Int} (h1 : 1 ≤ s) (h2 : s ≤ e.sn p) : ∃ f ∈ c, f.1 = p ∧ f.2.1 = s := Ord_all h.ord h1 (Int.le_trans h2 (h.sn he hp).2)
theorem card_intro (hl : x.length ≤ 60) (hs : x.Pairwise keyLt) (h : ∀ e ∈ x, ∃ a, Card a ∧ e ∈ a ∧ (∀ f ∈ a, sawE e f = true → f ∈ x) ∧ (∀ f ∈ x, sawE e f = true → f ∈ a)) : Card x := by
  have ho : Ord x := by
    refine Ord_of hs (fun e he => ?_) (fun e he h2 => ?_)
    · obtain ⟨a, ha, hea, _⟩ := h e he
      exact (Ord_num ha.ord e hea).1
    · obtain ⟨a, ha, hea, h3, _⟩ := h e he
      obtain ⟨f, hf, f1, f2⟩ := Ord_all ha.ord (s := e.2.1 - 1) (p := e.1) (by omega) (by have := (Ord_num ha.ord e hea).2; omega)
      refine ⟨f, h3 f hf ?_, f1, f2⟩
      rw [sawE_iff, f1, ha.own hea]; omega
  refine ⟨hl, fun e he => ?_, ho, fun e he => ?_⟩
  · obtain ⟨a, ha, hea, _⟩ := h e he
    exact ha.txt e hea
  · obtain ⟨a, ha, hea, h3, h4⟩ := h e he
    refine wrong_intro (fun p hp => ⟨fun hq => ((wrong_not (ha.saw e hea)).1 p hp).1 hq, (ha.sn hea hp).1, ?_⟩) (fun f hf hsaw p hp => ha.up hea (h4 f hf hsaw) hsaw hp)
    rcases (show e.sn p ≤ 0 ∨ 1 ≤ e.sn p by omega) with h0 | h0
    · omega
    · obtain ⟨f, hf, f1, f2⟩ := ha.seen hea hp h0 (Int.le_refl _)
      have hx := h3 f hf (by rw [sawE_iff, f1, f2]; exact Int.le_refl _)
      have := (Ord_num ho f hx).2
      rw [f1] at this
      omega
/-- No entry of the one list contradicts one of the other. -/
def noPart (a b : List Ent) : Prop := ∀ e ∈ a, ∀ f ∈ b, e.1 = f.1 → e.2.1 = f.2.1 → e = f
instance (a b : List Ent) : Decidable (noPart a b) := by unfold noPart; infer_instance
theorem noPart_symm (h : noPart a b) : noPart b a := fun e he f hf h1 h2 => (h f hf e he h1.symm h2.symm).symm
/-- The error of two cards. -/
def val2 (a b : List Ent) : Int := if val a ≠ 0 then val a else if val b ≠ 0 then val b else if noPart a b then 0 else 12
theorem val2_zero : val2 a b = 0 ↔ Card a ∧ Card b ∧ noPart a b := by
  unfold val2
  constructor
  · intro h
    split at h
    · rename_i h1; exact absurd h h1
    rename_i h1
    split at h
    · rename_i h2; exact absurd h h2
    rename_i h2
    split at h
    · rename_i h3
      exact ⟨val_zero.1 (Classical.not_not.1 h1), val_zero.1 (Classical.not_not.1 h2), h3⟩
    · exact absurd h (by decide)
  · rintro ⟨h1, h2, h3⟩
    rw [if_neg (fun h => h (val_zero.2 h1)), if_neg (fun h => h (val_zero.2 h2)), if_pos h3]
/-- The entries of a place. -/
def ofP (c : List Ent) (p : Int) : List Ent := c.filter fun e => decide (e.1 = p)
/-- The entries of a list that another one has, or has not. -/
def wo (a b : List Ent) (common : Bool) : List Ent := a.filter fun e => decide (e ∈ b) == common
def mergeR (a b : List Ent) : List Ent := (ofP a 0 ++ ofP (wo b a false) 0) ++ (ofP a 1 ++ ofP (wo b a false) 1) ++ (ofP a 2 ++ ofP (wo b a false) 2)
theorem mem_ofP {c : List Ent} {p : Int} {e : Ent} : e ∈ ofP c p ↔ e ∈ c ∧ e.1 = p := by unfold ofP; rw [List.mem_filter, decide_eq_true_eq]
theorem mem_wo {e : Ent} : e ∈ wo a b false ↔ e ∈ a ∧ e ∉ b := by
  unfold wo; rw [List.mem_filter]
  by_cases h : e ∈ b <;> simp [h]
theorem mem_wot {e : Ent} : e ∈ wo a b true ↔ e ∈ a ∧ e ∈ b := by
  unfold wo; rw [List.mem_filter]
  by_cases h : e ∈ b <;> simp [h]
theorem card_pl (h : Card c) {e : Ent} (he : e ∈ c) : e.1 = 0 ∨ e.1 = 1 ∨ e.1 = 2 := by have := h.txt e he; unfold okT at this; omega
theorem mem_mergeR (ha : Card a) (hb : Card b) {e : Ent} : e ∈ mergeR a b ↔ e ∈ a ∨ e ∈ b := by
  unfold mergeR
  simp only [List.mem_append, mem_ofP, mem_wo]
  by_cases h1 : e ∈ a
  · have := card_pl ha h1
    simp [h1]; omega
  · by_cases h2 : e ∈ b
    · have := card_pl hb h2
      simp [h1, h2]; omega
    · simp [h1, h2]
theorem three_sorted {l0 l1 l2 : List Ent} (h0 : l0.Pairwise keyLt) (h1 : l1.Pairwise keyLt) (h2 : l2.Pairwise keyLt) (p0 : ∀ e ∈ l0, e.1 = 0) (p1 : ∀ e ∈ l1, e.1 = 1) (p2 : ∀ e ∈ l2, e.1 = 2) : (l0 ++ l1 ++ l2).Pairwise keyLt := by
  rw [List.pairwise_append, List.pairwise_append]
  refine ⟨⟨h0, h1, fun x hx y hy => ?_⟩, h2, fun x hx y hy => ?_⟩
  · have := p0 x hx; have := p1 y hy; unfold keyLt; omega
  · have := p2 y hy
    rcases List.mem_append.1 hx with hx | hx
    · have := p0 x hx; unfold keyLt; omega
    · have := p1 x hx; unfold keyLt; omega
theorem mergeR_sorted (ha : Card a) (hb : Card b) (hn : noPart a b) : (mergeR a b).Pairwise keyLt := by
  have one : ∀ p : Int, (ofP a p ++ ofP (wo b a false) p).Pairwise keyLt := fun p => by
    rw [List.pairwise_append]
    refine ⟨ha.sorted.filter _, (hb.sorted.filter _).filter _, fun x hx y hy => ?_⟩
    rw [mem_ofP] at hx hy
    rw [mem_wo] at hy
    obtain ⟨⟨y1, y2⟩, y3⟩ := hy
    refine .inr ⟨hx.2.trans y3.symm, Classical.byContradiction fun hlt => ?_⟩
    have h1 := (Ord_num ha.ord x hx.1).2
    have h2 := (Ord_num hb.ord y y1).1
    rw [hx.2] at h1
    obtain ⟨g, hg, g1, g2⟩ := Ord_all ha.ord (s := y.2.1) (p := p) h2 (by omega)
    exact y2 ((hn g hg y y1 (g1.trans y3.symm) g2) ▸ hg)
  have pl : ∀ p : Int, ∀ e ∈ ofP a p ++ ofP (wo b a false) p, e.1 = p := fun p e he => by
    rcases List.mem_append.1 he with he | he
    · exact (mem_ofP.1 he).2
    · exact (mem_ofP.1 he).2
  exact three_sorted (one 0) (one 1) (one 2) (pl 0) (pl 1) (pl 2)
theorem merge_cross (ha : Card a) (hb : Card b) (hn : noPart a b) {e f : Ent} (he : e ∈ a) (hf : f ∈ b) (hs : sawE e f = true) : f ∈ a := by
  obtain ⟨p, hp, hq⟩ := hb.place hf
  have h1 := (Ord_num hb.ord f hf).1
  rw [sawE_iff, hq] at hs
  obtain ⟨g, hg, g1, g2⟩ := ha.seen he hp h1 hs
  exact (hn g hg f hf (g1.trans hq.symm) g2) ▸ hg
theorem card_merge (ha : Card a) (hb : Card b) (hn : noPart a b) (hl : (mergeR a b).length ≤ 60) : Card (mergeR a b) := by
  refine card_intro hl (mergeR_sorted ha hb hn) (fun e he => ?_)
  rcases (mem_mergeR ha hb).1 he with he | he
  · refine ⟨a, ha, he, fun f hf _ => (mem_mergeR ha hb).2 (.inl hf), fun f hf hs => ?_⟩
    rcases (mem_mergeR ha hb).1 hf with hf | hf
    · exact hf
    · exact merge_cross ha hb hn he hf hs
  · refine ⟨b, hb, he, fun f hf _ => (mem_mergeR ha hb).2 (.inr hf), fun f hf hs => ?_⟩
    rcases (mem_mergeR ha hb).1 hf with hf | hf
    · exact merge_cross hb ha (noPart_symm hn) he hf hs
    · exact hf
/-- A sort of the one card with what the other has besides gives the same. -/
theorem merge_sort (ha : Card a) (hb : Card b) (hn : noPart a b) {l : List Ent} (hp : l.Perm (a ++ wo b a false)) (hs : l.Pairwise fun x y => ¬ keyLt y x) : l = mergeR a b := by
  have nd : (a ++ wo b a false).Nodup := by
    rw [List.nodup_append]
    refine ⟨sorted_nodup ha.sorted, (sorted_nodup hb.sorted).filter _, fun x hx y hy e => ?_⟩
    subst e
    exact (mem_wo.1 hy).2 hx
  have inj : ∀ e ∈ a ++ wo b a false, ∀ f ∈ a ++ wo b a false, e.1 = f.1 → e.2.1 = f.2.1 → e = f := fun e he f hf h1 h2 => by
    rcases List.mem_append.1 he with he | he <;> rcases List.mem_append.1 hf with hf | hf
    · exact sorted_inj ha.sorted he hf h1 h2
    · exact hn e he f (mem_wo.1 hf).1 h1 h2
    · exact (hn f hf e (mem_wo.1 he).1 h1.symm h2.symm).symm
    · exact sorted_inj hb.sorted (mem_wo.1 he).1 (mem_wo.1 hf).1 h1 h2
  refine sorted_ext (sorted_of_sort hp hs nd inj) (mergeR_sorted ha hb hn) (fun e => ?_)
  rw [hp.mem_iff, mem_mergeR ha hb, List.mem_append, mem_wo]
  by_cases h : e ∈ a <;> simp [h]
end
end Go.Proofs.YtnlhllleipemlaaGreatDoor
