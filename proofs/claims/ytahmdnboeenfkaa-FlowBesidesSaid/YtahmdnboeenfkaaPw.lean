/- A parting more or less: plain text; a row in a field that grows in place or is made anew. -/
import Derived.Test.YtahmdnboeenfkaaDl
import Derived.Test.YtahmdnboeenfkaaPl8
import Derived.OwnWalk
import Derived.ArgAppend
namespace Go.Proofs.Ytahmdnboeenfkaa
open Go.RowKit Go.Sort

def partE (ps : List Edg) (e : Edg) : List Edg := if e ∈ ps then ps.filter (fun x => decide (x ≠ e)) else putE ps e
def partF (f : Fld) (e : Edg) : Fld := { f with ps := partE f.ps e }
/-- Part's two results. -/
def partR (f : Fld) (e : Edg) : Fld × Int := if valid f ≠ 0 then (zeroF, valid f) else if isE f.W f.H e = false then (zeroF, 5) else (fin (partF f e), valid (partF f e))
section
variable {f : Fld} {e : Edg}
theorem partR_bad (h : valid f ≠ 0) : partR f e = (zeroF, valid f) := by unfold partR; rw [if_pos h]
theorem partR_off (h : valid f = 0) (h1 : isE f.W f.H e = false) : partR f e = (zeroF, 5) := by unfold partR; rw [if_neg (by simpa using h), if_pos h1]
theorem partR_ok (h : valid f = 0) (h1 : isE f.W f.H e = true) : partR f e = (fin (partF f e), valid (partF f e)) := by unfold partR; rw [if_neg (by simpa using h), if_neg (by rw [h1]; decide)]
theorem partE_in {ps : List Edg} (h : e ∈ ps) : partE ps e = ps.filter (fun x => decide (x ≠ e)) := by unfold partE; rw [if_pos h]
theorem partE_out {ps : List Edg} (h : e ∉ ps) : partE ps e = putE ps e := by unfold partE; rw [if_neg h]
theorem nlt_of_lt {l : List Edg} (h : l.Pairwise ltE) : l.Pairwise fun x y => ¬ ltE y x := h.imp fun h => ltE_asymm h
theorem putE_sort {ps : List Edg} (h : ps.Pairwise ltE) : putE ps e = sortE (ps ++ [e]) := by
  refine sortE_unique ?_ (insE_sorted e ps (nlt_of_lt h))
  exact (insE_perm e ps).trans (List.perm_append_comm (l₁ := [e]) (l₂ := ps))
/-- The element at its place left out. -/
theorem filter_cut {ps : List Edg} {i : Nat} (h : ps.Pairwise ltE) (hi : ps[i]? = some e) : ps.filter (fun x => decide (x ≠ e)) = ps.take i ++ ps.drop (i + 1) := by
  obtain ⟨hl, he⟩ := List.getElem?_eq_some_iff.1 hi
  have hp := List.pairwise_iff_getElem.1 h
  conv => lhs; rw [← List.take_append_drop i ps, List.drop_eq_getElem_cons hl, he]
  rw [List.filter_append, List.filter_cons_of_neg (by simp)]
  congr 1
  · rw [List.filter_eq_self]
    intro x hx
    obtain ⟨k, hk, rfl⟩ := List.getElem_of_mem hx
    rw [List.length_take] at hk
    simp only [List.getElem_take, decide_eq_true_eq]
    intro e1
    have := hp k i (by omega) hl (by omega)
    rw [e1, he] at this
    exact ltE_irrefl _ this
  · rw [List.filter_eq_self]
    intro x hx
    obtain ⟨k, hk, rfl⟩ := List.getElem_of_mem hx
    rw [List.length_drop] at hk
    simp only [List.getElem_drop, decide_eq_true_eq]
    intro e1
    have := hp i (i + 1 + k) hl (by omega) (by omega)
    rw [e1, he] at this
    exact ltE_irrefl _ this
theorem part_sorted {ps : List Edg} (h : ps.Pairwise ltE) : (partE ps e).Pairwise ltE := by
  by_cases hm : e ∈ ps
  · rw [partE_in hm]; exact h.filter _
  · rw [partE_out hm]
    have h1 := insE_sorted e ps (nlt_of_lt h)
    have h2 : (insE e ps).Nodup := (insE_perm e ps).nodup_iff.2 (List.nodup_cons.2 ⟨hm, nodup_of_sorted h⟩)
    refine (h1.and h2).imp ?_
    intro a b ⟨h4, h5⟩
    rcases ltE_total a b with h | h | h
    · exact h
    · exact absurd h h5
    · exact absurd h h4
theorem sorted_perm {l m : List Edg} (hp : l.Perm m) (hl : l.Pairwise ltE) (hm : m.Pairwise ltE) : l = m := by
  rw [sortE_unique hp (nlt_of_lt hl), sortE_of_lt hm]
theorem part_twice {ps : List Edg} (h : ps.Pairwise ltE) : partE (partE ps e) e = ps := by
  refine sorted_perm ?_ (part_sorted (part_sorted h)) h
  by_cases hm : e ∈ ps
  · rw [partE_in hm]
    have h1 : e ∉ ps.filter (fun x => decide (x ≠ e)) := by simp
    rw [partE_out h1]
    obtain ⟨i, hi, rfl⟩ := List.getElem_of_mem hm
    refine (insE_perm _ _).trans ?_
    rw [filter_cut h (List.getElem?_eq_getElem hi)]
    refine List.Perm.trans (List.perm_middle (l₁ := ps.take i) (l₂ := ps.drop (i + 1)) (a := ps[i])).symm ?_
    rw [← List.drop_eq_getElem_cons hi, List.take_append_drop]
  · rw [partE_out hm]
    have h1 : e ∈ putE ps e := (insE_perm e ps).mem_iff.2 (by simp)
    rw [partE_in h1]
    refine ((insE_perm e ps).filter _).trans ?_
    rw [List.filter_cons_of_neg (by simp), List.filter_eq_self.2]
    intro x hx
    simp only [decide_eq_true_eq]
    intro e1
    subst e1
    exact hm hx
theorem partF_twice (h : valid f = 0) : partF (partF f e) e = f := by
  have := part_twice (e := e) (okf_of_valid h).sorted
  unfold partF
  rw [this]
/-- Making a parting twice undoes it. -/
theorem partR_twice (h : (partR f e).2 = 0) : partR (partR f e).1 e = (f, 0) := by
  by_cases hv : valid f = 0
  · cases he : isE f.W f.H e
    · rw [partR_off hv he] at h; cases h
    · rw [partR_ok hv he] at h ⊢
      have h1 : valid (partF f e) = 0 := h
      have h2 : fin (partF f e) = partF f e := by unfold fin; rw [if_pos h1]
      rw [h2]
      show partR (partF f e) e = (f, 0)
      rw [partR_ok h1 he, partF_twice hv, hv]
      unfold fin
      rw [if_pos hv]
  · rw [partR_bad hv] at h
    exact absurd h hv
theorem part_len (ps : List Edg) (e : Edg) : (partE ps e).length ≤ ps.length + 1 := by
  by_cases hm : e ∈ ps
  · rw [partE_in hm]; have := List.length_filter_le (fun x => decide (x ≠ e)) ps; omega
  · rw [partE_out hm]; have := (insE_perm e ps).length_eq; simp at this; show (insE e ps).length ≤ _; omega
end

set_option maxRecDepth 4000 in
theorem wpList_pushGE2 {ops : Array Oper} {rest : List Oper} {o : Oper} {a : Act} {Q : Exit → Act → World → Prop} (hgd : o.guard = none) (s x : Operand)
    (ho : o.op = .call { callee := .builtin .append, args := #[s, x], argTypes := #[23, 23] })
    (bl : Nat) (w : World) (A : Option Addr) (n c : Nat) (es : List Edg) (e : Edg) (b : Nat) (hs : a.eval s = .slice A n c) (hown : w.ownsRow bl 33 3 (.slice A n c) n (edgs es)) (hbl : bl ≤ w.heap.size) (hx : a.eval x = .slice (some ⟨b, 0, none⟩) 1 1)
    (hbox : Box w b #[.int .i64 e.1, .int .i64 e.2.1, .int .i64 e.2.2]) (hlen : n < 1000000000)
    (h : ∀ A' c' w', w'.ownsRow bl 33 3 (.slice A' (n + 1) c') (n + 1) (edgs (es ++ [e])) → w.grownBy w' (Value.slice A n c).ownBlock → (A' = A ∨ ∀ p, A' = some p → w.heap.size ≤ p.block) → wpList Try.prog ops Q rest (a.put o.dst (.slice A' (n + 1) c')) w') :
    wpList Try.prog ops Q (o :: rest) a w := by
  obtain ⟨i0, hi, hz0, hz1, hz2⟩ := info_parts info33
  have hcell : ∀ j u, (ecells e)[j]? = some u → w.cell? ((⟨b, 0, none⟩ : Addr).add j) = some u := by
    intro j u hj
    have e1 : (⟨b, 0, none⟩ : Addr).add j = ⟨b, j, none⟩ := by
      unfold Addr.add
      split
      · rename_i h0; rw [h0]
      · simp
    rw [e1, hbox.at]
    simpa [ecells] using hj
  have h63 : n + 1 ≤ maxLen := by unfold maxLen; omega
  by_cases hroom : n + 1 ≤ c
  · cases A with
    | none =>
      rcases hown.2 with ⟨hv, h0⟩ | ⟨g', cap', cur, hv, _⟩
      · injection hv with _ _ e3; omega
      · cases hv
    | some p =>
      obtain ⟨g, rfl⟩ : ∃ g, p = ⟨g, 0, none⟩ := by
        rcases hown.2 with ⟨hv, h0⟩ | ⟨g', cap', cur, hv, _⟩
        · cases hv
        · injection hv with e1 _ _; injection e1 with e1; exact ⟨g', e1⟩
      refine wpList_append_fits w hgd s x 23 ho bl 33 i0 3 Try.underlying23 hi hz1 g n c (edgs es) hs hown ⟨b, 0, none⟩ 1 1 (ecells e) hx rfl hcell (edgs_one [e]) hroom ?_
      intro w' h1 h2
      exact h _ _ w' (by rw [edgs_append]; exact h1) h2 (.inl rfl)
  · refine wpList_append_grows w hgd s x 23 ho 33 i0 _ 3 24 Try.underlying23 hi hz0 hz1 hz2 rfl (by decide) A n c (edgs es) hs ?_ hown.1 ?_ ⟨b, 0, none⟩ 1 1 (ecells e) hx rfl hcell (edgs_one [e]) (by omega) h63 (by omega) ?_
    · intro h0; subst h0
      rcases hown.2 with ⟨hv, _⟩ | ⟨g', cap', cur, hv, _⟩
      · injection hv with _ e2 e3; exact ⟨e2, e3⟩
      · cases hv
    · intro p hp j u hj
      subst hp
      have hr := Reads.of_own hown
      have hjl := (List.getElem?_eq_some_iff.1 hj).1
      have hn0 : 0 < n := by
        rcases Nat.eq_zero_or_pos n with h0 | h0
        · have := hown.1; rw [h0] at this; omega
        · exact h0
      obtain ⟨q, hq, _, hc⟩ := hr.look hn0
      injection hq with hq; subst hq
      exact hc j u hj
    · intro v' w' h1 h2
      obtain ⟨A', c', rfl⟩ := row_form h1
      have hnew : ∀ p, A' = some p → w.heap.size ≤ p.block := fun p hp => (h1.lt p.block (by rw [hp]; rfl)).1
      refine h A' c' w' (by rw [edgs_append]; exact row_mono h1 hbl) ⟨h2.os, h2.tape, h2.output, h2.size, fun k hk _ => h2.block k hk (by simp)⟩ (.inr hnew)
set_option maxRecDepth 4000 in
/-- One edge more behind a row: in place, or in a new block. -/
theorem run_pushE (bl : Nat) (w : World) (ty : TypeId) (A : Option Addr) (n c : Nat) (es : List Edg) (e : Edg) (b : Nat) (hown : w.ownsRow bl 33 3 (.slice A n c) n (edgs es)) (hbl : bl ≤ w.heap.size)
    (hbox : Box w b #[.int .i64 e.1, .int .i64 e.2.1, .int .i64 e.2.2]) (hlen : n < 1000000000) :
    ∃ A' c' w', (Builtin.append_ #[23, 23] ty #[.slice A n c, .slice (some ⟨b, 0, none⟩) 1 1]).run Try.prog w = .ok (.slice A' (n + 1) c') w' ∧ w'.ownsRow bl 33 3 (.slice A' (n + 1) c') (n + 1) (edgs (es ++ [e])) ∧
      w.grownBy w' (Value.slice A n c).ownBlock ∧ (A' = A ∨ ∀ p, A' = some p → w.heap.size ≤ p.block) := by
  obtain ⟨i0, hi, hz0, hz1, hz2⟩ := info_parts info33
  have hcell : ∀ j u, (ecells e)[j]? = some u → w.cell? ((⟨b, 0, none⟩ : Addr).add j) = some u := by
    intro j u hj
    have e1 : (⟨b, 0, none⟩ : Addr).add j = ⟨b, j, none⟩ := by
      unfold Addr.add
      split
      · rename_i h0; rw [h0]
      · simp
    rw [e1, hbox.at]
    simpa [ecells] using hj
  have h63 : n + 1 ≤ maxLen := by unfold maxLen; omega
  rw [edgs_append]
  by_cases hroom : n + 1 ≤ c
  · cases A with
    | none =>
      rcases hown.2 with ⟨hv, h0⟩ | ⟨g', cap', cur, hv, _⟩
      · injection hv with _ _ e3; omega
      · cases hv
    | some p =>
      obtain ⟨g, rfl⟩ : ∃ g, p = ⟨g, 0, none⟩ := by
        rcases hown.2 with ⟨hv, h0⟩ | ⟨g', cap', cur, hv, _⟩
        · cases hv
        · injection hv with e1 _ _; injection e1 with e1; exact ⟨g', e1⟩
      obtain ⟨w', hr, h1, h2⟩ := run_append_fits (P := Try.prog) w bl 23 ty 33 i0 3 Try.underlying23 hi hz1 g n c (edgs es) hown ⟨b, 0, none⟩ 1 1 (ecells e) rfl hcell (edgs_one [e]) hroom
      exact ⟨_, _, w', hr, h1, h2, .inl rfl⟩
  · cases A with
    | none =>
      rcases hown.2 with ⟨hv, h0⟩ | ⟨g', cap', cur, hv, _⟩
      · injection hv with _ e2 e3
        subst e2 e3
        obtain ⟨v', w', hrun, r1, r2, _⟩ := run_append_own (P := Try.prog) w w.heap.size 23 ty 33 i0 _ 3 24 Try.underlying23 hi hz0 hz1 hz2 rfl (by decide) (.slice none 0 0) 0 [] (World.ownsRow_nil w _ 33 3) ⟨b, 0, none⟩ 1 1 (ecells e) rfl hcell (edgs_one [e]) h63 (by decide) (Nat.le_refl _)
        obtain ⟨A', c', rfl⟩ := row_form r1
        have r3 : w'.ownsRow bl 33 3 (.slice A' (0 + 1) c') (0 + 1) (edgs es ++ edgs [e]) := by
          have := row_mono r1 hbl
          rw [show edgs es = [] from List.eq_nil_of_length_eq_zero (by simpa using hown.1), show edgs [e] = ecells e by simp [edgs]]
          exact this
        refine ⟨A', c', w', hrun, r3, ⟨r2.os, r2.tape, r2.output, r2.size, r2.block⟩, .inr fun p hp => (r1.lt p.block (by rw [hp]; rfl)).1⟩
      · cases hv
    | some p =>
      have holds : ∀ j u, (edgs es)[j]? = some u → w.cell? (p.add j) = some u := by
        intro j u hj
        have hr := Reads.of_own hown
        have hjl := (List.getElem?_eq_some_iff.1 hj).1
        have hn0 : 0 < n := by
          rcases Nat.eq_zero_or_pos n with h0 | h0
          · have := hown.1; rw [h0] at this; omega
          · exact h0
        obtain ⟨q, hq, _, hc⟩ := hr.look hn0
        injection hq with hq; subst hq
        exact hc j u hj
      obtain ⟨v', w', hrun, r1, r2⟩ := run_append_arg_grows (P := Try.prog) w 23 ty 33 i0 _ 3 24 Try.underlying23 hi hz0 hz1 hz2 rfl (by decide) p n c (edgs es) hown.1 holds ⟨b, 0, none⟩ 1 1 (ecells e) rfl hcell (by omega) h63 (by omega)
      obtain ⟨A', c', rfl⟩ := row_form r1
      exact ⟨A', c', w', hrun, row_mono r1 hbl, ⟨r2.os, r2.tape, r2.output, r2.size, fun k hk _ => r2.block k hk (by simp)⟩, .inr fun p hp => (r1.lt p.block (by rw [hp]; rfl)).1⟩
theorem step_pushGE2 {ops : Array Oper} {o : Oper} {a : Act} {K : Act → World → Prop} {Q : Exit → Act → World → Prop} {E : Prop} (hgd : o.guard = none) (s x : Operand)
    (ho : o.op = .call { callee := .builtin .append, args := #[s, x], argTypes := #[23, 23] })
    (bl : Nat) (w : World) (A : Option Addr) (n c : Nat) (es : List Edg) (e : Edg) (b : Nat) (hs : a.eval s = .slice A n c) (hown : w.ownsRow bl 33 3 (.slice A n c) n (edgs es)) (hbl : bl ≤ w.heap.size) (hx : a.eval x = .slice (some ⟨b, 0, none⟩) 1 1)
    (hbox : Box w b #[.int .i64 e.1, .int .i64 e.2.1, .int .i64 e.2.2]) (hlen : n < 1000000000)
    (h : ∀ A' c' w', w'.ownsRow bl 33 3 (.slice A' (n + 1) c') (n + 1) (edgs (es ++ [e])) → w.grownBy w' (Value.slice A n c).ownBlock → (A' = A ∨ ∀ p, A' = some p → w.heap.size ≤ p.block) → K (a.put o.dst (.slice A' (n + 1) c')) w') :
    if Region.wanted o (yielded ops a.tmps) = true then Oper.wp Try.prog o a w K Q else E := by
  have hw : Region.wanted o (yielded ops a.tmps) = true := by simp [Region.wanted, hgd]
  rw [if_pos hw]
  obtain ⟨A', c', w', hr, h1, h2, h3⟩ := run_pushE bl w o.type A n c es e b hown hbl hbox hlen
  unfold Oper.wp execOp
  simp only [ho, resolve, invoke, builtin, Sem.run_bind, Sem.run_pure, Result.andThen_ok, List.map_toArray, List.map_cons, List.map_nil, hs, hx, hr]
  exact h A' c' w' h1 h2 h3
section
variable {w1 w w' : World} {a b B : Nat} {v : FV}
/-- The partings of a field that is being made: another row, in place or anew. -/
theorem GF.putR (h : GF w1 a b w B v) {B' : Option Addr} {m' d' : Nat} {ps' : List Edg}
    (hr : w'.ownsRow b 33 3 (.slice B' m' d') m' (edgs ps')) (hg : w.grownBy w' (Value.slice v.B v.m v.d).ownBlock) (hnew : B' = v.B ∨ ∀ p, B' = some p → w.heap.size ≤ p.block) :
    GF w1 a b (w'.setCell ⟨B, 3, none⟩ (.slice B' m' d')) B ⟨{ v.f with ps := ps' }, v.A, B', v.n, v.c, m', d'⟩ := by
  have hBw := h.box.1
  have hrow : ∀ k, (Value.slice v.B v.m v.d).ownBlock = some k → b ≤ k := fun k hk => (h.ps.lt k hk).1
  have hbox : Box w' B #[.int .i64 v.f.W, .int .i64 v.f.H, .slice v.A v.n v.c, .slice v.B v.m v.d] := h.box.grown hg fun k hk => by obtain ⟨p, hp, rfl⟩ := own_blk hk; exact h.nB p hp
  have hfz := fz_grown hBw h.fz hg fun k hk => by obtain ⟨p, hp, rfl⟩ := own_blk hk; exact h.nB p hp
  have hB2 : ∀ p, B' = some p → p.block ≠ B := fun p hp => by
    rcases hnew with h0 | h0
    · exact h.nB p (h0 ▸ hp)
    · have := h0 p hp; omega
  have hds : w'.ownsRow a 3 1 (.slice v.A v.n v.c) v.n (ints v.f.ds) := by
    refine h.ds.kept hg ?_
    cases hA : v.A with
    | none => exact .inl rfl
    | some p =>
      refine .inr ?_
      cases hB : v.B with
      | none => simp [Value.ownBlock]
      | some q => simp [Value.ownBlock]; exact h.ne p q hA hB
  refine ⟨?_, fun j => ?_, ?_, ?_, ?_, h.nA, hB2, ?_, h.hB, h.ha, h.hb⟩
  · have := hbox.set (i := 3) (by simp) (.slice B' m' d'); simpa using this
  · rw [World.frozen?_setCell]; exact hfz j
  · exact row_far hds (q := ⟨B, 3, none⟩) (fun k hk => by obtain ⟨p, hp, rfl⟩ := own_blk hk; exact h.nA p hp) _
  · exact row_far hr (q := ⟨B, 3, none⟩) (fun k hk => by obtain ⟨p, hp, rfl⟩ := own_blk hk; exact hB2 p hp) _
  · intro p q hp hq
    rcases hnew with h0 | h0
    · exact h.ne p q hp (h0 ▸ hq)
    · have := h0 q hq
      have := (h.ds.lt p.block (by rw [show v.A = some p from hp]; rfl)).2
      omega
  · exact (h.bel.grown hg h.bel.size fun k hk => Nat.le_trans h.hb (hrow k hk)).setCell (p := ⟨B, 3, none⟩) h.hB _
/-- A field that a call has given is laid into a box of its own. -/
theorem GF.boxed (hb : Below w1.heap.size w1 w) (ho : FOwn w1.heap.size w v) (t : TypeId) :
    GF w1 w1.heap.size w1.heap.size (w.alloc (.cells #[.int .i64 v.f.W, .int .i64 v.f.H, .slice v.A v.n v.c, .slice v.B v.m v.d] t)) w.heap.size v := by
  have h2 := ho.on (belowA w (.cells #[.int .i64 v.f.W, .int .i64 v.f.H, .slice v.A v.n v.c, .slice v.B v.m v.d] t))
  exact ⟨Box.new _ _ _, fz_new _ _ _, h2.ds, h2.ps, h2.ne, fun p hp => by have := (ho.blkA hp).2; omega, fun p hp => by have := (ho.blkB hp).2; omega, below_trans' hb (belowA _ _), hb.size, Nat.le_refl _, Nat.le_refl _⟩
end
theorem ResB.new3 (w : World) (cs ds : Array Value) (t u : TypeId) : ResB w (((w.alloc (.cells cs t)).alloc (.cells ds u)).alloc (.cells #[.int .i64 0, .int .i64 0, .slice none 0 0, .slice none 0 0] 25)) (w.heap.size + 2) := by
  have h := ResB.new (w.alloc (.cells cs t)) ds u
  rw [World.size_alloc] at h
  exact ⟨h.box, h.fz, below_trans' (belowA w (.cells cs t)) h.bel, by omega⟩
end Go.Proofs.Ytahmdnboeenfkaa
