/- The reference's put: an edge into its place. -/
import Derived.Test.YtahmdnboeenfkaaW33
namespace Go.Proofs.Ytahmdnboeenfkaa
open Go.RowKit Go.Sort

def insE (e : Edg) : List Edg → List Edg
  | [] => [e]
  | x :: l => if ltE e x then e :: x :: l else x :: insE e l
def stpE (e : Edg) (s : Bool × List Edg) (x : Edg) : Bool × List Edg := if !s.1 && decide (ltE e x) then (true, s.2 ++ [e] ++ [x]) else (s.1, s.2 ++ [x])
def stE (e : Edg) (es : List Edg) (k : Nat) : Bool × List Edg := (es.take k).foldl (stpE e) (false, [])
def putE (es : List Edg) (e : Edg) : List Edg := insE e es
theorem stE_zero (e : Edg) (es : List Edg) : stE e es 0 = (false, []) := by simp [stE]
theorem stE_succ {e x : Edg} {es : List Edg} {k : Nat} (h : es[k]? = some x) : stE e es (k + 1) = stpE e (stE e es k) x := by
  unfold stE
  obtain ⟨hk, rfl⟩ := List.getElem?_eq_some_iff.1 h
  rw [List.take_succ_eq_append_getElem hk, List.foldl_append]; rfl
theorem foldl_true (e : Edg) (l o : List Edg) : l.foldl (stpE e) (true, o) = (true, o ++ l) := by
  induction l generalizing o with
  | nil => simp
  | cons x l ih => rw [List.foldl_cons]; show l.foldl _ (true, o ++ [x]) = _; rw [ih]; simp
theorem foldl_ins (e : Edg) (l o : List Edg) : (if (l.foldl (stpE e) (false, o)).1 then (l.foldl (stpE e) (false, o)).2 else (l.foldl (stpE e) (false, o)).2 ++ [e]) = o ++ insE e l := by
  induction l generalizing o with
  | nil => simp [insE]
  | cons x l ih =>
    rw [List.foldl_cons]
    by_cases h : ltE e x
    · have : stpE e (false, o) x = (true, o ++ [e] ++ [x]) := by simp [stpE, h]
      rw [this, foldl_true]; simp [insE, h]
    · have : stpE e (false, o) x = (false, o ++ [x]) := by simp [stpE, h]
      rw [this, ih]; simp [insE, h]
theorem stE_all {e : Edg} {es : List Edg} {k : Nat} (h : es.length ≤ k) : (if (stE e es k).1 then (stE e es k).2 else (stE e es k).2 ++ [e]) = putE es e := by
  unfold stE putE
  rw [List.take_of_length_le h]
  exact foldl_ins e es []
theorem stE_length (e : Edg) (es : List Edg) (k : Nat) : (stE e es k).2.length ≤ k + 1 := by
  have : ∀ (l : List Edg) (s : Bool × List Edg), (l.foldl (stpE e) s).2.length ≤ s.2.length + l.length + (if s.1 then 0 else 1) := by
    intro l
    induction l with
    | nil => intro s; simp
    | cons x l ih =>
      intro s
      rw [List.foldl_cons]
      refine Nat.le_trans (ih _) ?_
      obtain ⟨b, o⟩ := s
      unfold stpE
      cases b <;> by_cases h : ltE e x <;> simp [h] <;> omega
  have h := this (es.take k) (false, [])
  have h2 : (es.take k).length ≤ k := List.length_take_le _ _
  simp at h
  unfold stE
  omega
/-- An insertion into a sorted list leaves it sorted. -/
theorem insE_perm (e : Edg) (l : List Edg) : (insE e l).Perm (e :: l) := by
  induction l with
  | nil => exact List.Perm.refl _
  | cons x l ih =>
    unfold insE
    by_cases h : ltE e x
    · rw [if_pos h]
    · rw [if_neg h]; exact (ih.cons x).trans (List.Perm.swap _ _ _)
theorem leE_trans {a b c : Edg} (h1 : ¬ ltE b a) (h2 : ¬ ltE c b) : ¬ ltE c a := by
  unfold ltE at *; omega
theorem insE_sorted (e : Edg) (l : List Edg) (h : l.Pairwise fun x y => ¬ ltE y x) : (insE e l).Pairwise fun x y => ¬ ltE y x := by
  induction l with
  | nil => simp [insE]
  | cons x l ih =>
    rw [List.pairwise_cons] at h
    unfold insE
    by_cases h0 : ltE e x
    · rw [if_pos h0, List.pairwise_cons]
      have hx : ¬ ltE x e := ltE_asymm h0
      refine ⟨fun y hy => ?_, List.pairwise_cons.2 h⟩
      rcases List.mem_cons.1 hy with rfl | hy
      · exact hx
      · exact leE_trans hx (h.1 y hy)
    · rw [if_neg h0, List.pairwise_cons]
      refine ⟨fun y hy => ?_, ih h.2⟩
      rcases List.mem_cons.1 ((insE_perm e l).mem_iff.1 hy) with rfl | hy
      · exact h0
      · exact h.1 y hy
theorem sortE_unique {l m : List Edg} (hp : l.Perm m) (hl : l.Pairwise fun x y => ¬ ltE y x) : l = sortE m := by
  have h1 := sortE_of hl
  have h2 : (sortE l).Perm (sortE m) := (sortE_perm l).trans (hp.trans (sortE_perm m).symm)
  rw [← h1]
  refine h2.eq_of_pairwise (le := fun x y => ¬ ltE y x) ?_ (sortE_le l) (sortE_le m)
  intro a b _ _ hab hba
  obtain ⟨a1, a2, a3⟩ := a
  obtain ⟨b1, b2, b3⟩ := b
  unfold ltE at hab hba
  simp only [Prod.mk.injEq]
  dsimp only at hab hba
  omega
theorem foldl_put (l acc : List Edg) (h : acc.Pairwise fun x y => ¬ ltE y x) : (l.foldl putE acc).Perm (acc ++ l) ∧ (l.foldl putE acc).Pairwise fun x y => ¬ ltE y x := by
  induction l generalizing acc with
  | nil => exact ⟨by simp, h⟩
  | cons x l ih =>
    rw [List.foldl_cons]
    obtain ⟨h1, h2⟩ := ih (putE acc x) (insE_sorted x acc h)
    refine ⟨h1.trans ?_, h2⟩
    refine ((insE_perm x acc).append_right l).trans ?_
    rw [List.cons_append]
    exact List.perm_middle.symm
theorem foldl_sort (l : List Edg) : l.foldl putE [] = sortE l := by
  obtain ⟨h1, h2⟩ := foldl_put l [] List.Pairwise.nil
  exact sortE_unique (by simpa using h1) h2

set_option maxHeartbeats 1000000 in
set_option maxRecDepth 10000 in
theorem put_any (A : Option Addr) (n c : Nat) (es : List Edg) (e : Edg) (w : World) (hl : Reads w w.heap.size 3 A n (edgs es)) (hn : n ≤ 1000000) :
    Calls Try.prog 90 #[.slice A n c, eval_ e] w (RetRow 33 3 (putE es e).length (edgs (putE es e)) w) := by
  have hlen := hl.len
  rw [edgs_length] at hlen
  have l1 : n ≤ es.length := by omega
  have l2 : es.length ≤ n := by omega
  have HL := Lib.hid hl
  clear hl hlen
  go_enter Try.func90, Try.ntmps90
  dsimp only [eval_]
  go_wp2_with fail
  refine wp_gen (fun w1 => Box w1 w.heap.size #[.int .i64 e.1, .int .i64 e.2.1, .int .i64 e.2.2] ∧ Below w.heap.size w w1) ⟨Box.new _ _ _, belowA _ _⟩ ?_
  rintro w1 ⟨b1, hw1⟩
  have HL1 := Lib.hid (HL.out.on hw1)
  have HW1 := Lib.hid hw1
  clear hw1 HL
  go_loopw [5, 6, 7] (fun out dn i wr => ∃ k : Nat, k ≤ n ∧ i = .int .i64 k ∧ dn = .bool (stE e es k).1 ∧ Own w1 wr out (stE e es k).2) (fun _ _ i _ => n - (intOf i).toNat)
  case atStart => exact ⟨0, by omega, rfl, by rw [stE_zero], by rw [stE_zero]; exact Own.nil w1⟩
  case round =>
    obtain ⟨k, hk, rfl, rfl, hown0⟩ := hrel
    have HO := Lib.hid hown0
    have bx := b1.below hown0.bel
    by_cases hlt : k < n
    · obtain ⟨ad, z, e1, hbk, hz0, d0, d1, d2⟩ := psat HL1.out (k := k) (by omega)
      have hz := Lib.hid hz0
      have X := fun w => ix23 (c := c) e1 hlt w
      have hlen : (stE e es k).2.length < 100000000 := by have := stE_length e es k; omega
      have HST := Lib.hid (stE_succ (e := e) hz0)
      have CE := Lib.hid (fun w5 (hb : Below w1.heap.size w1 w5) => (show w5.cell? (ad.add (k * 3)) = some (.int .i64 z.1) ∧ w5.cell? ⟨(ad.add (k * 3)).block, (ad.add (k * 3)).off + 1, none⟩ = some (.int .i64 z.2.1) ∧ w5.cell? ⟨(ad.add (k * 3)).block, (ad.add (k * 3)).off + 2, none⟩ = some (.int .i64 z.2.2) from
        ⟨(hb.cell (p := ad.add (k * 3)) (by rw [blockAdd]; exact hbk)).trans d0, (hb.cell (p := ⟨(ad.add (k * 3)).block, (ad.add (k * 3)).off + 1, none⟩) (by show (ad.add (k * 3)).block < _; rw [blockAdd]; exact hbk)).trans d1, (hb.cell (p := ⟨(ad.add (k * 3)).block, (ad.add (k * 3)).off + 2, none⟩) (by show (ad.add (k * 3)).block < _; rw [blockAdd]; exact hbk)).trans d2⟩))
      obtain ⟨q0, q1, q2⟩ := CE.out _ hown0.bel
      clear hz0 hown0 e1 d0 d1 d2
      have HB := Lib.hid (fun w => before_any e z w)
      generalize hs : stE e es k = s at HO hlen HST
      obtain ⟨dn, o⟩ := s
      dsimp only at HO hlen
      have c0 := bx.rg
      have f0 := rg_cell q0
      have f1 := rg_cell q1
      have f2 := rg_cell q2
      clear hs q0 q1 q2
      have HCase : Hid (dn = false → (¬ ltE e z)) ∨ Hid (dn = false ∧ ltE e z) := by
        cases dn
        · by_cases h : ltE e z
          · exact .inr (Lib.hid ⟨rfl, h⟩)
          · exact .inl (Lib.hid fun _ => h)
        · exact .inl (Lib.hid fun h => by cases h)
      rcases HCase with HC | HC
      · have HS2 := Lib.hid (show stE e es (k + 1) = (dn, o ++ [z]) by
          rw [HST.out]
          unfold stpE
          rw [if_neg]
          cases dn
          · simpa using HC.out rfl
          · simp)
        have HDE := Lib.hid (fun (h : dn = false) => (show decide (ltE e z) = false by simpa using HC.out h))
        clear HST HC
        cases dn
        all_goals
          go_wp2_with fail
          refine wp_region_qb mixed (by kernel_rfl) ?_
          repeat (go_big_quiet_step (exact rg_call (fun w _ => HB.out w) _ _))
          refine wpQuiet_nil ?_
          intro w4 hb4
          first | rw [HDE.out rfl] | rw [HDE.out trivial] | skip
          clear c0 f0 f1 f2 HB
          have bx4 := bx.below hb4
          have c4 := bx4.at
          obtain ⟨q0, q1, q2⟩ := CE.out _ (below_trans' HO.out.bel hb4)
          have HO4 := Lib.hid (HO.out.on hb4)
          clear hb4 HO
          go_wp2_with (at_builtin; refine wpList_push rfl _ _ rfl w1 _ _ o z _ rfl (HO4.out.on (belowA _ _)) rfl (Box.new _ _ _) (by omega) ?_; intro v' w' hown'; have HO5 := Lib.hid hown'; clear hown')
          go_roundw
          case rel => exact ⟨k + 1, by omega, by go_num, by rw [HS2.out], by rw [HS2.out]; exact HO5.out⟩
          case measure => simp [intOf]; omega
      · obtain ⟨rfl, hlt0⟩ := HC.out
        have HS2 := Lib.hid (show stE e es (k + 1) = (true, o ++ [e] ++ [z]) by
          rw [HST.out]
          simp [stpE, hlt0])
        have HDE := Lib.hid (show decide (ltE e z) = true by simpa using hlt0)
        clear HST HC hlt0
        go_wp2_with fail
        refine wp_region_qb mixed (by kernel_rfl) ?_
        repeat (go_big_quiet_step (exact rg_call (fun w _ => HB.out w) _ _))
        refine wpQuiet_nil ?_
        intro w4 hb4
        rw [HDE.out]
        clear c0 f0 f1 f2 HB
        have bx4 := bx.below hb4
        have c4 := bx4.at
        have HO4 := Lib.hid (HO.out.on hb4)
        clear hb4 HO
        go_wp2_with (at_builtin; first | (refine wpList_push rfl _ _ rfl w1 _ _ o e _ rfl (HO4.out.on (belowA _ _)) rfl (Box.new _ _ _) (by omega) ?_; intro v' w' hown'; have HO5 := Lib.hid hown'; clear hown'; have q := CE.out _ HO5.out.bel; obtain ⟨q0, q1, q2⟩ := q; clear HO4) | (refine wpList_push rfl _ _ rfl w1 _ _ (o ++ [e]) z _ rfl (HO5.out.on (belowA _ _)) rfl (Box.new _ _ _) (by simp; omega) ?_; intro v' w' hown'; have HO6 := Lib.hid hown'; clear hown'))
        go_roundw
        case rel => exact ⟨k + 1, by omega, by go_num, by rw [HS2.out], by rw [HS2.out]; exact HO6.out⟩
        case measure => simp [intOf]; omega
    · have HF := Lib.hid (stE_all (e := e) (es := es) (k := k) (by omega))
      have hlen : (stE e es k).2.length < 100000000 := by have := stE_length e es k; omega
      clear hown0
      generalize hs : stE e es k = s at HO hlen HF
      obtain ⟨dn, o⟩ := s
      dsimp only at HO hlen
      have c0 := bx.at
      clear hs
      cases dn
      · have HP := Lib.hid (show o ++ [e] = putE es e by simpa using HF.out)
        clear HF
        go_wp2_with (at_builtin; refine wpList_push rfl _ _ rfl w1 _ _ o e _ rfl (HO.out.on (belowA _ _)) rfl (Box.new _ _ _) (by omega) ?_; intro v' w' hown'; have HO5 := Lib.hid hown'; clear hown')
        obtain ⟨A', c', rfl, _⟩ := HO5.out.form
        go_ret
        exact ⟨A', c', by rw [← HP.out]; rfl, by rw [← HP.out]; exact row_mono HO5.out.row HW1.out.size, below_trans' HW1.out HO5.out.bel⟩
      · have HP := Lib.hid (show o = putE es e by simpa using HF.out)
        clear HF
        go_wp2_with fail
        obtain ⟨A', c', rfl, _⟩ := HO.out.form
        go_ret
        exact ⟨A', c', by rw [← HP.out]; rfl, by rw [← HP.out]; exact row_mono HO.out.row HW1.out.size, below_trans' HW1.out HO.out.bel⟩
end Go.Proofs.Ytahmdnboeenfkaa
