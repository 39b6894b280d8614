/- Merged texts: Gi Hj -/
import Derived.Test.YtihhclhpjgeniaaGreatDoorSB7
import Derived.Test.YtihhclhpjgeniaaGreatDoorSB15
import Derived.Test.YtihhclhpjgeniaaGreatDoorSB23
import Derived.Test.YtihhclhpjgeniaaGreatDoorSB26
namespace Go.Proofs.YtihhclhpjgeniaaGreatDoor
open Go.RowKit Go.Sort
def RetH (h : Hr) (w : World) (r : Ending) (w' : World) : Prop := ∃ v : BV, v.h = h ∧ r = .returned (.agg v.arr) ∧ v.In w' ∧ v.New w.heap.size ∧ Below w.heap.size w w'
theorem results_c {fn : Func} {p : _root_.Go.Tmp} {ty : TypeId} (h : fn.results = #[.cell p ty]) (tmps : Array Value) (P : Program) (w : World) :
  (results fn tmps).run P w = ((asAddr (tmps.getD p undef)).run P w).andThen fun a w₁ => ((loadVar ty a).run P w₁).andThen fun v w₂ => .ok v w₂ := by
 simp only [results, h]
 simp [Sem.run_bind, Result.andThen]
 cases Sem.run P (asAddr (tmps[p]?.getD undef)) w <;> simp
 split <;> simp_all
theorem retBE1 {fn : Func} {tmps : Array Value} {w : World} (p : _root_.Go.Tmp) (g : Nat) (cs : Array Value) (h : fn.results = #[.cell p 56]) (hp : tmps.getD p undef = .pointer (some ⟨g, 0, none⟩)) (hg : At w g cs 56) (hc : cs.size = 2) :
  (results fn tmps).run Tryz.prog w = .ok (.agg cs) w := by
 rw [results_c h, hp]
 simp [asAddr, run_loadVar_row w g 56 56 cs (0, 0) _ hg Tryz.underlying56 rfl (by rw [hc]; kernel_rfl)]
theorem ofH_zero (l : Int) : ofH 0 l = noH := if_pos rfl
theorem ofH_pos {c : Int} (h : c ≠ 0) (l : Nat) : ofH c l = ⟨List.replicate (l - 1) 0 ++ [c], []⟩ := by unfold ofH; rw [if_neg h, Int.toNat_natCast]
theorem zeros_set (c : Int) (l : Nat) (h : 1 ≤ l) : (ints (List.replicate l 0)).set (l - 1) (.int .i64 c) = ints (List.replicate (l - 1) 0 ++ [c]) := by
 obtain ⟨k, rfl⟩ : ∃ k, l = k + 1 := ⟨l - 1, by omega⟩
 rw [Nat.add_sub_cancel, List.replicate_succ']
 simp [ints]
set_option maxRecDepth 100000 in
set_option maxHeartbeats 1000000 in
theorem of_any (c : Int) (l : Nat) (w : World) (hc : 0 ≤ c ∧ c ≤ 1000000) (hl : 1 ≤ l ∧ l ≤ 24) :
  Calls Tryz.prog 219 #[.int .i64 c, .int .i64 (l : Int)] w (RetH (ofH c l) w) := by
 have M := fun w => mk46 l (by omega) w
 go_enter Tryz.func219, Tryz.ntmps219
 by_cases h0 : c = 0
 ·subst h0
  go_wp2_with fail
  refine bodyPost_ret (retBE1 4 w.heap.size noArr rfl rfl (At.new w noArr 56) rfl) rfl ?_
  exact ⟨noB, (ofH_zero _).symm, rfl, noB_in _, noB_new _, belowA _ _⟩
 ·have h1 : (c == 0) = false := by simpa using h0
  have hz0 := madeCells_zero l
  have hz1 : (madeCells #[.int .i64 0] l).size = l := by simp [size_madeCells]
  have hz : (madeCells #[.int .i64 0] l)[l - 1]? = some (.int .i64 0) := by
   have := congrArg (·[l - 1]?) (madeCells_zero l)
   simp only [Array.getElem?_toList] at this
   rw [this, ints, List.getElem?_map, List.getElem?_replicate, if_pos (by omega)]; rfl
  generalize madeCells #[.int .i64 0] l = cs at M hz0 hz1 hz
  have hf : (cs.setIfInBounds (l - 1) (.int .i64 c)).toList = ints (ofH c l).R := by
   rw [Array.toList_setIfInBounds, hz0, ofH_pos h0, zeros_set c l hl.1]
  have HF := Lib.hid hf
  have H1 := Lib.hid hz1
  clear hz0 hz1 hf
  go_wp2_with fail
  generalize hcs : cs.setIfInBounds (l - 1) (.int .i64 c) = cs' at HF ⊢
  have hsz : cs'.size = l := by rw [← hcs, Array.size_setIfInBounds, H1.out]
  clear hcs
  generalize hw1 : w.alloc (.cells #[.slice (some ⟨w.heap.size + 1, 0, none⟩) l l, .slice none 0 0] 56) = w1
  have hs1 : w1.heap.size = w.heap.size + 1 := by rw [← hw1, World.size_alloc]
  have ho := World.ownsRow_lit (base := 0) (e := 3) (size := 1) w1 cs' l (Nat.zero_le _) (by unfold maxLen; omega) (by omega)
  rw [hs1] at ho
  have k0 : At w1 w.heap.size #[.slice (some ⟨w.heap.size + 1, 0, none⟩) l l, .slice none 0 0] 56 := by rw [← hw1]; exact At.new w _ 56
  have hb1 : Below w.heap.size w w1 := by rw [← hw1]; exact belowA w _
  have hr := Reads.of_own ho
  refine bodyPost_ret (retBE1 4 w.heap.size #[.slice (some ⟨w.heap.size + 1, 0, none⟩) l l, .slice none 0 0] rfl rfl ((k0.al _).al _) rfl) rfl ?_
  have hb2 := belowA (w1.alloc (.cells cs' 3)) (.cells #[.slice (some ⟨w.heap.size + 1, 0, none⟩) l l, .slice none 0 0] 56)
  have hok := ofH_ok (count := c) (len := l) hc (by omega)
  rw [HF.out] at hr
  refine ⟨⟨ofH c l, some ⟨w.heap.size + 1, 0, none⟩, none, l, l, 0, 0⟩, rfl, rfl, ⟨hr.on hb2, ?_, Nat.le_refl _, Nat.le_refl _, hok⟩, ?_, below_trans' (below_trans' hb1 (belowA _ _)) hb2⟩
  ·show Reads _ _ 1 none 0 (ints (ofH c l).W)
   rw [ofH_pos h0]; exact Reads.nil
  ·rintro k (⟨_, a, h, rfl⟩ | ⟨h, _⟩)
   ·injection h with h; subst h; show w.heap.size ≤ w.heap.size + 1; omega
   ·exact absurd rfl h
theorem of2_any (c len : Int) (w : World) (hc : 0 ≤ c ∧ c ≤ 1000000) (hl : 1 ≤ len ∧ len ≤ 24) :
  Calls Tryz.prog 219 #[.int .i64 c, .int .i64 len] w (RetH (ofH c len) w) := by
 obtain ⟨l, rfl⟩ : ∃ l : Nat, len = (l : Int) := ⟨len.toNat, by omega⟩
 exact of_any c l w hc (by omega)
end Go.Proofs.YtihhclhpjgeniaaGreatDoor
namespace Go.Proofs.YtihhclhpjgeniaaGreatDoor
open Go.RowKit Go.Sort
section
variable {P : Program} {ops : Array Oper} {md : Region.Mode} {Q : Exit → Act → World → Prop} {S : World → Prop}
def freeL (md : Region.Mode) (ops : Array Oper) (ts : List Nat) : List Nat → List Nat → List Nat
 | _, [] => []
 | acc, p :: ps => if (ts ++ acc).any (Region.waitsFor md ops p) then freeL md ops ts (p :: acc) ps else p :: freeL md ops ts acc ps
def newH (md : Region.Mode) (ops : Array Oper) (ps ts : List Nat) : List Nat := ps.filter fun p => (freeL md ops ts [] ps).contains p
def oldH (md : Region.Mode) (ops : Array Oper) (ps ts : List Nat) : List Nat := ps.filter fun p => !(freeL md ops ts [] ps).contains p
theorem mem_free {ps ts : List Nat} (x : Nat) : x ∈ ps ↔ x ∈ newH md ops ps ts ∨ x ∈ oldH md ops ps ts := by
 unfold newH oldH
 rw [List.mem_filter, List.mem_filter]
 cases (freeL md ops ts [] ps).contains x <;> simp
theorem not_both {ps ts : List Nat} {x : Nat} (h : x ∈ newH md ops ps ts) (k : x ∈ oldH md ops ps ts) : False := by
 unfold newH at h; unfold oldH at k
 rw [List.mem_filter] at h k
 rw [h.2] at k
 exact absurd k.2 (by simp)
theorem free_len (ps ts : List Nat) : (newH md ops ps ts).length + (oldH md ops ps ts).length = ps.length := by
 unfold newH oldH
 generalize (freeL md ops ts [] ps) = l
 induction ps with
 | nil => rfl
 | cons x ps ih => cases hc : l.contains x <;> simp only [List.filter_cons, hc, Bool.not_true, Bool.not_false, if_true, List.length_cons, Bool.false_eq_true, if_false] <;> omega
def okG (md : Region.Mode) (ops : Array Oper) : Nat → List Nat → List Nat → List Nat → Bool
 | 0, _, _, _ => true
 | n + 1, hs, ps, ts => pairB md ops hs && crossB md ops hs ts && (ps.all fun p => (ts ++ ps).any fun u => Region.waitsFor md ops p u) &&
   (readyT md ops ts).all fun t => okG md ops n (hs ++ newH md ops ps (ts.erase t)) (oldH md ops ps (ts.erase t)) (ts.erase t)
def OkG (md : Region.Mode) (ops : Array Oper) : Nat → List Nat → List Nat → List Nat → Prop
 | 0, _, _, _ => True
 | n + 1, hs, ps, ts => hs.Pairwise (fun h j => ap1 md ops h j = true) ∧ (∀ h ∈ hs, ∀ t ∈ ts, ap1 md ops h t = true) ∧ (∀ p ∈ ps, ∃ u ∈ ts ++ ps, Region.waitsFor md ops p u = true) ∧
   ∀ t ∈ readyT md ops ts, OkG md ops n (hs ++ newH md ops ps (ts.erase t)) (oldH md ops ps (ts.erase t)) (ts.erase t)
theorem okG_spec : ∀ (n : Nat) (hs ps ts : List Nat), okG md ops n hs ps ts = true → OkG md ops n hs ps ts
 | 0, _, _, _, _ => trivial
 | n + 1, hs, ps, ts, h => by
  unfold okG at h
  simp only [Bool.and_eq_true] at h
  obtain ⟨⟨⟨h1, h2⟩, h3⟩, h4⟩ := h
  unfold crossB at h2
  rw [List.all_eq_true] at h2 h3 h4
  refine ⟨pairB_spec _ h1, fun x hx t ht => ?_, fun p hp => ?_, fun t ht => okG_spec n _ _ _ (h4 t ht)⟩
  ·have := h2 x hx; rw [List.all_eq_true] at this; exact this t ht
  ·have := h3 p hp; rw [List.any_eq_true] at this; obtain ⟨u, hu, e⟩ := this; exact ⟨u, hu, e⟩
theorem OkG.sub : ∀ (n : Nat) (hs hs' ps ts : List Nat), hs'.Sublist hs → OkG md ops n hs ps ts → OkG md ops n hs' ps ts
 | 0, _, _, _, _, _, _ => trivial
 | n + 1, _, _, _, _, hl, ⟨h1, h2, h3, h4⟩ => ⟨h1.sublist hl, fun h hh => h2 h (hl.subset hh), h3, fun t ht => OkG.sub n _ _ _ _ (hl.append_right _) (h4 t ht)⟩
theorem canonG_append {L : Act → Prop} : ∀ (hs ns : List Nat) (a : Act), canonG P ops S (fun a' => canonG P ops S L ns a') hs a → canonG P ops S L (hs ++ ns) a
 | [], _, _, h => h
 | _ :: hs, ns, _, ⟨o, v, ho, hy, h⟩ => ⟨o, v, ho, hy, canonG_append hs ns _ h⟩
def tailJ (P : Program) (md : Region.Mode) (ops : Array Oper) (Q : Exit → Act → World → Prop) (S : World → Prop) : Nat → List Nat → List Nat → Act → World → Prop
 | 0, _, _, a, w => ∀ W, Below w.heap.size w W → Q .normal a W
 | 1, _, ts, a, w => ∀ W, Below w.heap.size w W → ∀ t ∈ readyT md ops ts, wpOp P ops Q t (fun a' w' => Q .normal a' w') a W
 | n + 2, ps, ts, a, w => ∀ W, Below w.heap.size w W → ∀ t ∈ readyT md ops ts, wpOp P ops Q t (fun a' w' => S w' ∧ canonG P ops S (fun a'' => tailJ P md ops Q S (n + 1) (oldH md ops ps (ts.erase t)) (ts.erase t) a'' w') (newH md ops ps (ts.erase t)) a') a W
theorem tailJ_grow {a : Act} {ps ts : List Nat} {w w' : World} (hb : Below w.heap.size w w') : ∀ n, tailJ P md ops Q S n ps ts a w → tailJ P md ops Q S n ps ts a w'
 | 0, h => fun W hW => h W (below_trans' hb hW)
 | 1, h => fun W hW => h W (below_trans' hb hW)
 | _ + 2, h => fun W hW => h W (below_trans' hb hW)
structure RemJ (md : Region.Mode) (ops : Array Oper) (hs ps ts : List Nat) (listed : Array Bool) : Prop where
 inv : HeadInv md ops (ops.size - 1) listed
 mem : ∀ i, listed.getD i true = false ↔ i ∈ hs ∨ i ∈ ps ∨ i ∈ ts
 nh : hs.Nodup
 nt : ts.Nodup
 d1 : ∀ i ∈ hs, i ∉ ps ∧ i ∉ ts
 d2 : ∀ i ∈ ps, i ∉ ts
 np : ps.Nodup
 lt : ∀ i, i ∈ hs ∨ i ∈ ps ∨ i ∈ ts → i < ops.size
 last : ops.size - 1 ∈ ts
 ok : OkG md ops ts.length hs ps ts
theorem wpAny_hj (hsel : Region.noSelect ops = true) (hsk : Region.sinkB md ops (ops.size - 1) = true) (hck : Region.chainB md ops (ops.size - 1) = true) (h0 : 0 < ops.size) (hdn : downB md ops = true)
  (hQ : ∀ c (a : Act) d v w, Q (.panic c) (a.put d v) w → Q (.panic c) a w) (hSg : ∀ w w', S w → Below w.heap.size w w' → S w') :
  ∀ (f : Nat) (hs ps ts : List Nat) (listed : Array Bool) (a : Act) (w : World), f + 1 = hs.length + ps.length + ts.length → RemJ md ops hs ps ts listed → S w → canonG P ops S (fun a' => tailJ P md ops Q S ts.length ps ts a' w) hs a → wpAny P md ops Q (f + 1) listed a w
 | f, hs, ps, ts, listed, a, w, hf, R, hS, hc => by
  have hselS := Region.noSelect_spec hsel
  refine ⟨fun hr => ?_, fun j hj => ?_⟩
  ·exfalso
   obtain ⟨m, hmin, hless⟩ := least_of (p := fun i => listed.getD i true) _ ((R.mem _).2 (.inr (.inr R.last)))
   have hlt := R.lt _ ((R.mem _).1 hmin)
   have : m ∈ Region.ready md ops listed := by
    rw [mem_ready]
    refine ⟨hmin, ops[m], by simp [hlt], fun e he hb => ?_⟩
    unfold downB at hdn
    rw [List.all_eq_true] at hdn
    have h1 := hdn m (List.mem_range.2 hlt)
    rw [Array.getElem?_eq_getElem hlt] at h1
    simp only [Option.map_some, Option.getD_some, Array.all_eq_true_iff_forall_mem] at h1
    have h2 := h1 e he
    rw [hb] at h2
    have h3 : e.on < m := by simpa using h2
    have h4 : listed.getD e.on true = true := hless e.on h3
    have h5 : e.on < listed.size := by rw [R.inv.size]; omega
    simp [h5] at h4 ⊢
    exact h4
   rw [hr] at this
   cases this
  ·obtain ⟨hun, oj, hoj, hall⟩ := mem_ready.1 hj
   have hjlt : j < ops.size := (Array.getElem?_eq_some_iff.1 hoj).1
   have hl1 : 0 < ts.length := List.length_pos_of_mem R.last
   obtain ⟨tn, htn⟩ : ∃ n, ts.length = n + 1 := ⟨ts.length - 1, by omega⟩
   have hok := R.ok
   rw [htn] at hok
   obtain ⟨o1, o2, o3, o4⟩ := hok
   have hapj : ∀ h ∈ hs, ap1 md ops h j = true → ∀ oh, ops[h]? = some oh → oh.apart ops oj = true := fun h hh h1 oh hoh =>
    ap1_spec h1 hoh hoj (ready_waits hj ((R.mem h).2 (.inl hh)))
   have hmem' : ∀ i, (listed.setIfInBounds j true).getD i true = false ↔ i ≠ j ∧ (i ∈ hs ∨ i ∈ ps ∨ i ∈ ts) := fun i => by
    by_cases hij : i = j
    ·subst hij
     simp only [ne_eq, not_true_eq_false, false_and, iff_false]
     rw [getD_set_self (by rw [R.inv.size]; exact hjlt)]; simp
    ·rw [getD_set_ne true (Ne.symm hij), R.mem]; simp [hij]
   rcases (R.mem j).1 hun with hjh | hjp | hjt
   ·obtain ⟨p, q, rfl⟩ := List.append_of_mem hjh
    have n1 := R.nh
    rw [List.nodup_append, List.nodup_cons] at n1
    obtain ⟨np, ⟨nq1, nq2⟩, nd⟩ := n1
    have hjp : j ∉ p := fun h => nd j h j List.mem_cons_self rfl
    have hjt := (R.d1 j hjh).2
    have hjps := (R.d1 j hjh).1
    have apq := List.pairwise_append.1 o1
    obtain ⟨v, hy, hcv⟩ := canonG_move hselS hoj p a (fun h hh => hapj h (by simp [hh]) (apq.2.2 h hh j List.mem_cons_self)) hc
    have hjn : j < ops.size - 1 := by
     have : j ≠ ops.size - 1 := fun e => hjt (e ▸ R.last)
     omega
    refine hy.op hoj hS fun w' hgr => ?_
    have hsub : (p ++ q).Sublist (p ++ j :: q) := (List.Sublist.refl p).append (List.sublist_cons_self j q)
    cases f with
    | zero => exfalso; simp at hf; omega
    | succ f =>
     refine wpAny_hj hsel hsk hck h0 hdn hQ hSg f (p ++ q) ps ts _ _ w' (by simp at hf ⊢; omega) ⟨R.inv.set hj hjn, fun i => ?_, R.nh.sublist hsub, R.nt, fun i hi => R.d1 i (hsub.subset hi), R.d2, R.np, fun i hi => R.lt i (hi.imp (fun h => hsub.subset h) id), R.last, OkG.sub _ _ _ _ _ hsub R.ok⟩ (hSg w w' hS hgr) (canonG_mono (fun _ h => tailJ_grow hgr _ h) _ _ hcv)
     rw [hmem']
     simp only [List.mem_append, List.mem_cons]
     refine ⟨fun ⟨h1, h2⟩ => ?_, fun h => ⟨fun e => ?_, ?_⟩⟩
     ·rcases h2 with (h2 | h2 | h2) | h2
      ·exact .inl (.inl h2)
      ·exact absurd h2 h1
      ·exact .inl (.inr h2)
      ·exact .inr h2
     ·subst e
      rcases h with (h | h) | h | h
      ·exact hjp h
      ·exact nq1 h
      ·exact hjps h
      ·exact hjt h
     ·rcases h with (h | h) | h
      ·exact .inl (.inl h)
      ·exact .inl (.inr (.inr h))
      ·exact .inr h
   ·exfalso
    obtain ⟨u, hu, hw⟩ := o3 j hjp
    rw [ready_waits hj ((R.mem u).2 (.inr ((List.mem_append.1 hu).symm)))] at hw
    cases hw
   ·have hjh : ∀ h ∈ hs, h ≠ j := fun h hh e => (R.d1 h hh).2 (e ▸ hjt)
    have hready : j ∈ readyT md ops ts := by
     unfold readyT
     rw [List.mem_filter]
     refine ⟨hjt, ?_⟩
     rw [List.all_eq_true]
     intro u hu
     rw [ready_waits hj ((R.mem u).2 (.inr (.inr hu)))]
     rfl
    have hlen : (ts.erase j).length + 1 = ts.length := by
     have := List.length_erase_of_mem hjt
     have := List.length_pos_of_mem hjt
     omega
    have hme : ∀ x, x ∈ ts.erase j ↔ x ≠ j ∧ x ∈ ts := fun x => R.nt.mem_erase_iff
    have hcase : ts.length = 1 ∨ ∃ n, ts.length = n + 2 := by
     rcases Nat.lt_or_ge ts.length 2 with h | h
     ·exact .inl (by omega)
     ·exact .inr ⟨ts.length - 2, by omega⟩
    rcases hcase with hl1 | ⟨n, hl2⟩
    ·have hjl : j = ops.size - 1 := by
      obtain ⟨x, hx⟩ := List.length_eq_one_iff.1 hl1
      have h1 := R.last
      rw [hx, List.mem_singleton] at h1 hjt
      rw [h1, hjt]
     have hno : ∀ h, h ∈ hs ∨ h ∈ ps → False := fun h hh => by
      have h2 := (R.mem h).2 (hh.imp id .inl)
      have h3 : h < ops.size - 1 := by
       have h4 := R.lt h (hh.imp id .inl)
       have : h ≠ j := hh.elim (hjh h) fun hp e => R.d2 h hp (e ▸ hjt)
       omega
      exact tail_waits hsk hck (by omega) R.inv _ h rfl h3 h2 j (by omega) hj
     have hnil : hs = [] := List.eq_nil_iff_forall_not_mem.2 fun h hh => hno h (.inl hh)
     have hnilp : ps = [] := List.eq_nil_iff_forall_not_mem.2 fun h hh => hno h (.inr hh)
     subst hnil hnilp
     obtain rfl : f = 0 := by rw [hl1] at hf; simpa using hf
     rw [hl1] at hc
     refine wpOp_mono (fun a' w' hq => ⟨?_, hq⟩) (hc w (Below.refl _ _) j hready)
     refine List.eq_nil_iff_forall_not_mem.2 fun i hi => ?_
     have := (hmem' i).1 (mem_ready.1 hi).1
     obtain ⟨x, hx⟩ := List.length_eq_one_iff.1 hl1
     rw [hx, List.mem_singleton] at hjt
     rw [hx] at this
     simp [hjt] at this
    ·have hjn : j < ops.size - 1 := by
      have h1 := R.last
      have : j ≠ ops.size - 1 := fun e => by
       have hlen2 : 0 < (ts.erase j).length := by omega
       obtain ⟨x, hx⟩ := List.exists_mem_of_length_pos hlen2
       obtain ⟨x1, x2⟩ := (hme x).1 hx
       have h2 := (R.mem x).2 (.inr (.inr x2))
       have h3 : x < ops.size - 1 := by
        have := R.lt x (.inr (.inr x2))
        omega
       exact tail_waits hsk hck (by omega) R.inv _ x rfl h3 h2 j (by omega) hj
      omega
     have hc' := canonG_mono (L' := fun a' => wpOp P ops Q j (fun a' w' => S w' ∧ canonG P ops S (fun a'' => tailJ P md ops Q S (n + 1) (oldH md ops ps (ts.erase j)) (ts.erase j) a'' w') (newH md ops ps (ts.erase j)) a') a' w) (fun a' h => by rw [hl2] at h; exact h w (Below.refl _ _) j hready) hs a hc
     have h1 := canonG_push (K := fun a' w' => S w' ∧ canonG P ops S (fun a'' => tailJ P md ops Q S (n + 1) (oldH md ops ps (ts.erase j)) (ts.erase j) a'' w') (newH md ops ps (ts.erase j)) a') hselS hoj hQ hs a (fun h hh => hapj h hh (o2 h hh j hjt)) hc'
     have hfl := free_len (md := md) (ops := ops) ps (ts.erase j)
     cases f with
     | zero => exfalso; omega
     | succ f =>
      refine wpOp_mono (fun a' w' hk => ?_) h1
      obtain ⟨_, hS', _⟩ := canonG_some hs a' hk
      have hn1 : (ts.erase j).length = n + 1 := by omega
      refine wpAny_hj hsel hsk hck h0 hdn hQ hSg f (hs ++ newH md ops ps (ts.erase j)) (oldH md ops ps (ts.erase j)) (ts.erase j) _ a' w' (by rw [List.length_append]; omega) ⟨R.inv.set hj hjn, fun i => ?_, ?_, R.nt.erase j, fun i hi => ?_, fun i hi => ?_, ?_, fun i hi => R.lt i ?_, (hme _).2 ⟨by omega, R.last⟩, ?_⟩ hS' (by rw [hn1]; exact canonG_append hs _ a' (canonG_mono (fun _ h => h.2) hs a' hk))
      ·rw [hmem', List.mem_append, hme, mem_free (md := md) (ops := ops) (ps := ps) (ts := ts.erase j) i]
       refine ⟨fun ⟨h1, h2⟩ => ?_, fun h => ⟨fun e => ?_, ?_⟩⟩
       ·rcases h2 with h2 | (h2 | h2) | h2
        ·exact .inl (.inl h2)
        ·exact .inl (.inr h2)
        ·exact .inr (.inl h2)
        ·exact .inr (.inr ⟨h1, h2⟩)
       ·subst e
        rcases h with (h | h) | h | h
        ·exact hjh _ h rfl
        ·exact R.d2 i ((mem_free i).2 (.inl h)) hjt
        ·exact R.d2 i ((mem_free i).2 (.inr h)) hjt
        ·exact h.1 rfl
       ·rcases h with (h | h) | h | h
        ·exact .inl h
        ·exact .inr (.inl (.inl h))
        ·exact .inr (.inl (.inr h))
        ·exact .inr (.inr h.2)
      ·rw [List.nodup_append]
       refine ⟨R.nh, R.np.filter _, fun x hx y hy e => ?_⟩
       subst e
       exact (R.d1 x hx).1 ((mem_free x).2 (.inl hy))
      ·rcases List.mem_append.1 hi with h | h
       ·exact ⟨fun k => (R.d1 i h).1 ((mem_free i).2 (.inr k)), fun k => (R.d1 i h).2 ((hme i).1 k).2⟩
       ·exact ⟨fun k => not_both h k, fun k => R.d2 i ((mem_free i).2 (.inl h)) ((hme i).1 k).2⟩
      ·exact fun k => R.d2 i ((mem_free i).2 (.inr hi)) ((hme i).1 k).2
      ·exact R.np.filter _
      ·rcases hi with h | h | h
       ·rcases List.mem_append.1 h with h | h
        ·exact .inl h
        ·exact .inr (.inl ((mem_free i).2 (.inl h)))
       ·exact .inr (.inl ((mem_free i).2 (.inr h)))
       ·exact .inr (.inr ((hme i).1 h).2)
      ·have h4 := o4 j hready
       rw [show (ts.erase j).length = tn by omega]
       exact h4
def hjB (md : Region.Mode) (ops : Array Oper) (hs ps ts : List Nat) : Bool :=
 Region.noSelect ops && Region.sinkB md ops (ops.size - 1) && Region.chainB md ops (ops.size - 1) && decide (0 < ops.size) && downB md ops && okG md ops ts.length hs ps ts &&
 decide ((hs ++ (ps ++ ts)).Nodup) && (hs ++ (ps ++ ts)).all (fun i => decide (i < ops.size)) && (List.range ops.size).all (fun i => (hs ++ (ps ++ ts)).contains i) && ts.contains (ops.size - 1) && decide (ops.size = hs.length + ps.length + ts.length)
theorem wp_region_hj {id : Nat} {a : Act} {w : World} {l : List Oper} (hs ps ts : List Nat) (S : World → Prop) (hm : P.follows .mixedOrders = true) (hB : hjB .any l.toArray hs ps ts = true)
  (hSg : ∀ w w', S w → Below w.heap.size w w' → S w') (hS : S w.drew) (h : canonG P l.toArray S (fun a' => tailJ P .any l.toArray (NoPanic Q) S ts.length ps ts a' w.drew) hs a) : (Code.region id l.toArray true).wp P Q a w := by
 simp only [hjB, Bool.and_eq_true, decide_eq_true_eq] at hB
 obtain ⟨⟨⟨⟨⟨⟨⟨⟨⟨⟨b1, b2⟩, b3⟩, b4⟩, b5⟩, b6⟩, b8⟩, b9⟩, b10⟩, b11⟩, b12⟩ := hB
 refine wp_region_noPanic (wp_region_any hm ?_)
 rw [List.all_eq_true] at b9 b10
 have hlt : ∀ i ∈ hs ++ (ps ++ ts), i < l.toArray.size := fun i hi => by simpa using b9 i hi
 obtain ⟨f, hf⟩ : ∃ f, l.toArray.size = f + 1 := ⟨l.toArray.size - 1, by omega⟩
 have hmm : ∀ i, (i ∈ hs ∨ i ∈ ps ∨ i ∈ ts) ↔ i ∈ hs ++ (ps ++ ts) := fun i => by simp only [List.mem_append]
 rw [List.nodup_append, List.nodup_append] at b8
 obtain ⟨n1, ⟨n2, n3, n4⟩, n5⟩ := b8
 have R : RemJ .any l.toArray hs ps ts (Array.replicate l.toArray.size false) := by
  refine ⟨⟨by simp, fun j oj _ hl => (by rw [getD_replicate_false] at hl; cases hl), fun t _ ht => getD_in (by simpa using ht) (getD_replicate_false _ _)⟩, fun i => ⟨fun hi => ?_, fun hi => ?_⟩, n1, n3, fun i hi => ⟨fun k => n5 i hi i (List.mem_append.2 (.inl k)) rfl, fun k => n5 i hi i (List.mem_append.2 (.inr k)) rfl⟩, fun i hi k => n4 i hi i k rfl, n2, fun i hi => hlt i ((hmm i).1 hi), by simpa using b11, okG_spec _ _ _ _ b6⟩
  ·rw [hmm]
   rcases Nat.lt_or_ge i l.toArray.size with h | h
   ·simpa using b10 i (List.mem_range.2 h)
   ·rw [show (Array.replicate l.toArray.size false).getD i true = true by simp [Nat.not_lt.2 (by simpa using h)]] at hi; cases hi
  ·exact getD_in (by simpa using hlt i ((hmm i).1 hi)) (getD_replicate_false _ _)
 have := wpAny_hj (P := P) (Q := NoPanic Q) (S := S) b1 b2 b3 b4 b5 (fun _ _ _ _ _ h => h) hSg f hs ps ts _ a w.drew (by omega) R hS h
 rw [← hf] at this
 exact this
theorem tailJ_one {n t : Nat} {ps ts ns ps' ts' : List Nat} {o : Oper} {a : Act} {w : World} (hr : readyT md ops ts = [t]) (he : ts.erase t = ts') (hn : newH md ops ps ts' = ns) (hp : oldH md ops ps ts' = ps') (ho : ops[t]? = some o)
  (h : ∀ W, Below w.heap.size w W → wpList P ops (Thn Q fun a' w' => S w' ∧ canonG P ops S (fun a'' => tailJ P md ops Q S (n + 1) ps' ts' a'' w') ns a') [o] a W) : tailJ P md ops Q S (n + 2) ps ts a w := by
 intro W hW u hu
 rw [hr, List.mem_singleton] at hu
 subst hu
 rw [he, hn, hp]
 exact wpOp_of_list ho (h W hW)
theorem tailJ_two {n t t' : Nat} {ps ts ns1 ps1 ts1 ns2 ps2 ts2 : List Nat} {o o' : Oper} {a : Act} {w : World} (hr : readyT md ops ts = [t, t']) (he : ts.erase t = ts1) (hn : newH md ops ps ts1 = ns1) (hp : oldH md ops ps ts1 = ps1)
  (he' : ts.erase t' = ts2) (hn' : newH md ops ps ts2 = ns2) (hp' : oldH md ops ps ts2 = ps2) (ho : ops[t]? = some o) (ho' : ops[t']? = some o')
  (h : ∀ W, Below w.heap.size w W → wpList P ops (Thn Q fun a' w' => S w' ∧ canonG P ops S (fun a'' => tailJ P md ops Q S (n + 1) ps1 ts1 a'' w') ns1 a') [o] a W) (h' : ∀ W, Below w.heap.size w W → wpList P ops (Thn Q fun a' w' => S w' ∧ canonG P ops S (fun a'' => tailJ P md ops Q S (n + 1) ps2 ts2 a'' w') ns2 a') [o'] a W) : tailJ P md ops Q S (n + 2) ps ts a w := by
 intro W hW u hu
 rw [hr] at hu
 simp only [List.mem_cons, List.not_mem_nil, or_false] at hu
 rcases hu with rfl | rfl
 ·rw [he, hn, hp]; exact wpOp_of_list ho (h W hW)
 ·rw [he', hn', hp']; exact wpOp_of_list ho' (h' W hW)
theorem tailJ_last {t : Nat} {ps ts : List Nat} {o : Oper} {a : Act} {w : World} (hr : readyT md ops ts = [t]) (ho : ops[t]? = some o) (h : ∀ W, Below w.heap.size w W → wpList P ops Q [o] a W) : tailJ P md ops Q S 1 ps ts a w := by
 intro W hW u hu
 rw [hr, List.mem_singleton] at hu
 subst hu
 exact tailW_last (S := fun _ => True) ho (h W hW)
end
end Go.Proofs.YtihhclhpjgeniaaGreatDoor
