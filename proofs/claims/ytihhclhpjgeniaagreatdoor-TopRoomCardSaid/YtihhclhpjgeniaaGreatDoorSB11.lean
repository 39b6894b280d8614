/- Merged texts: Q3 Q4 -/
import Derived.Test.YtihhclhpjgeniaaGreatDoorSB6
import Derived.Test.YtihhclhpjgeniaaGreatDoorSB10
import Derived.WalkLawsBesides
namespace Go.Proofs.YtihhclhpjgeniaaGreatDoor
open Go.RowKit Go.Sort
theorem extract_mk (p : List UInt8) (i j : Nat) : (mkB p).extract i j = mkB ((p.drop i).take (j - i)) := by
 apply ByteArray.ext
 apply Array.toList_inj.1
 simp [ByteArray.extract, ByteArray.copySlice]
def headB : List UInt8 → UInt8
 | [] => 0
 | c :: _ => c
abbrev badPt : Ending := .panicked [{ v := .iface 347 (.agg #[]), recovered := false }]
structure ReadAt (w : World) (b : Nat) (s : List UInt8) : Prop where
 box : Box w b #[.string (mkB s)]
 fz : ∀ i, w.frozen? ⟨b, i, none⟩ = false
theorem ReadAt.c0 {w : World} {b : Nat} {s : List UInt8} (h : ReadAt w b s) : w.cell? ⟨b, 0, none⟩ = some (.string (mkB s)) := h.box.2 0
theorem ReadAt.set {w : World} {b : Nat} {s : List UInt8} (h : ReadAt w b s) (s' : List UInt8) : ReadAt (w.setCell ⟨b, 0, none⟩ (.string (mkB s'))) b s' := ⟨h.box.set (i := 0) (by simp) _, fun i => by rw [World.frozen?_setCell]; exact h.fz i⟩
theorem ReadAt.grown {w w' : World} {b : Nat} {s : List UInt8} {row : Option Nat} (h : ReadAt w b s) (hg : w.grownBy w' row) (hne : row ≠ some b) : ReadAt w' b s :=
 ⟨h.box.grown hg fun k hk e => hne (by rw [hk, e]), fz_grown h.box.1 h.fz hg fun k hk e => hne (by rw [hk, e])⟩
set_option maxRecDepth 100000 in
theorem peek_any (b : Nat) (s : List UInt8) (w : World) (h : ReadAt w b s) : Calls Tryz.prog 330 #[.pointer (some ⟨b, 0, none⟩)] w fun r w' => r = .returned (.int .u8 ((headB s).toNat : Int)) ∧ w' = w := by
 have c0 := h.c0
 clear h
 go_enter Tryz.func330, Tryz.ntmps330
 cases s with
 | nil =>
  go_wp2_with fail
  go_ret
  exact ⟨rfl, rfl⟩
 | cons c u =>
  have hs : (mkB (c :: u)).size = u.length + 1 := rfl
  go_wp2_with fail
  go_ret
  exact ⟨rfl, rfl⟩
set_option maxRecDepth 100000 in
theorem take_any (b : Nat) (s : List UInt8) (w : World) (h : ReadAt w b s) (hs : s.length ≤ 1000000) : Calls Tryz.prog 332 #[.pointer (some ⟨b, 0, none⟩)] w fun r w' =>
  (headB s = 0 ∧ r = badPt ∧ w' = w) ∨ ∃ c u, s = c :: u ∧ r = .returned (.int .u8 (c.toNat : Int)) ∧ w' = w.setCell ⟨b, 0, none⟩ (.string (mkB u)) := by
 have c0 := h.c0
 have f0 := h.fz 0
 have HR := Lib.hid h
 clear h
 go_enter Tryz.func332, Tryz.ntmps332
 go_wp2_with fail
 with_reducible refine (peek_any b s _ HR.out).mono ?_
 rintro _ _ ⟨rfl, rfl⟩
 by_cases h0 : headB s = 0
 ·have HH := Lib.hid h0
  rw [h0]
  clear h0
  go_wp2_with fail
  exact ⟨rfl, .inl ⟨HH.out, rfl, rfl⟩⟩
 ·cases s with
  | nil => exact absurd rfl h0
  | cons c u =>
   have g0 : ((c.toNat : Int) == 0) = false := ne8 (n := 0) h0 (by decide)
   have hs : (mkB (c :: u)).size = u.length + 1 := rfl
   have hx : (mkB (c :: u)).extract 1 (u.length + 1) = mkB u := by rw [extract_mk]; simp
   rw [show headB (c :: u) = c from rfl]
   clear h0
   go_wp2_with fail
   go_ret
   exact .inr ⟨c, u, rfl, rfl, rfl⟩
end Go.Proofs.YtihhclhpjgeniaaGreatDoor
namespace Go.Proofs.YtihhclhpjgeniaaGreatDoor
open Go.RowKit Go.Sort
def ItsR (w : World) (b d : Nat) (s : List UInt8) (o : Option PR) (r : Ending) (w' : World) : Prop :=
 w.grownBy w' (some b) ∧ ((o = none ∧ r = badPt) ∨ ∃ rest L W A n c es, o = some (rest, L, W) ∧ r = .returned (.slice A n c) ∧ Its w' (· < w.heap.size) w'.heap.size (9 - d) A n es ∧ lenE es = L ∧ wordE es = W ∧ n ≤ s.length ∧ ReadAt w' b rest)
def ItemsC (f : Nat) : Prop := ∀ (d : Nat) (s : List UInt8) (b : Nat) (w : World), d ≤ 9 → s.length < f → s.length ≤ 4000 → ReadAt w b s →
 Calls Tryz.prog 316 #[.pointer (some ⟨b, 0, none⟩), .int .i64 (d : Int)] w (ItsR w b d s (if d ≤ 8 then pItems f d s else none))
def lenR (w : World) (b : Nat) : Nat := match w.cell? ⟨b, 0, none⟩ with | some (.string s) => s.size | _ => 0
theorem lenR_of {w : World} {b : Nat} {s : List UInt8} (h : ReadAt w b s) : lenR w b = s.length := by unfold lenR; rw [h.c0]; exact size_mk s
def NoX (B : Nat) (v : Value) (X : Option Nat) (k : Nat) : Prop := k < B ∨ some k = v.ownBlock ∨ some k = X
theorem pTail_len (s : List UInt8) (l : Nat) (w : List UInt8) : (pTail s l w).1.length ≤ s.length := by
 unfold pTail
 split
 ·simp
 ·split <;> simp
theorem dropWhile_len (p : UInt8 → Bool) : ∀ s : List UInt8, (s.dropWhile p).length ≤ s.length
 | [] => by simp
 | c :: s => by
  rw [List.dropWhile_cons]
  split
  ·have := dropWhile_len p s; simp; omega
  ·exact Nat.le_refl _
theorem pOne_len {inner : List UInt8 → Option PR} (hi : ∀ t r, inner t = some r → r.1.length ≤ t.length) {s : List UInt8} {r : PR} (h : pOne inner s = some r) : r.1.length < s.length := by
 unfold pOne at h
 have hd := dropWhile_len isSign s
 generalize s.dropWhile isSign = R at h hd
 split at h
 ·cases h
 ·rename_i c t
  simp only [List.length_cons] at hd
  split at h
  ·cases h; show t.length < _; omega
  ·split at h
   ·split at h
    ·rename_i u l w hx
     cases h
     have h1 := hi _ _ hx
     simp only [List.length_cons] at h1
     have h2 := pTail_len u l w
     show (pTail u l w).1.length < _
     omega
    ·cases h
   ·cases h
theorem pItems_len : ∀ (f d : Nat) (s : List UInt8) (r : PR), pItems f d s = some r → r.1.length ≤ s.length
 | 0, _, _, _, h => by cases h
 | f + 1, d, s, r, h => by
  unfold pItems at h
  split at h
  ·cases h; simp
  ·split at h
   ·cases h; exact Nat.le_refl _
   ·split at h
    ·cases h
    ·rename_i r1 l1 w1 h1
     have hl := pOne_len (fun t r ht => by
      split at ht
      ·exact pItems_len f (d + 1) t r ht
      ·cases ht) h1
     split at h
     ·cases h
     ·rename_i r2 l2 w2 h2
      cases h
      have := pItems_len f d r1 _ h2
      exact Nat.le_trans this (Nat.le_of_lt hl)
structure LoopI (w : World) (f b d : Nat) (s : List UInt8) (wr : World) (Xo : Option Nat) (f' : Nat) (s' t : List UInt8) (A : Option Addr) (n c : Nat) (es : List Elt) : Prop where
 fuel : s'.length < f'
 less : f' ≤ f
 spec : pItems f d s = (pItems f' d s').map fun x => (x.1, lenE es + x.2.1, wordE es ++ x.2.2)
 read : ReadAt wr b t
 cnt : n + s'.length ≤ s.length
 lt : b < w.heap.size
 grown : w.grownBy wr (some b)
 own : wr.ownsRow w.heap.size 353 4 (.slice A n c) n (elts es)
 xok : ∀ X, Xo = some X → w.heap.size ≤ X ∧ X < wr.heap.size ∧ (Value.slice A n c).ownBlock ≠ some X
 its : ∀ e ∈ es, EltOk e ∧ ∃ es', Its wr (NoX w.heap.size (.slice A n c) Xo) wr.heap.size (8 - d) e.A e.n es' ∧ e.L = lenE es' ∧ e.W = wordE es'
theorem grown_below {w w' : World} (hb : Below w.heap.size w w') (row : Option Nat) : w.grownBy w' row := ⟨hb.os, hb.tape, hb.output, hb.size, fun k hk _ => hb.block k hk⟩
section
variable {w wr wr' : World} {f b d n c f' : Nat} {s s' t : List UInt8} {A : Option Addr} {Xo : Option Nat} {es : List Elt}
theorem LoopI.step (h : LoopI w f b d s wr Xo f' s' t A n c es) {row : Option Nat} (hg : wr.grownBy wr' row) (hr : ∀ r, row = some r → r = b ∨ some r = Xo) {t' : List UInt8} (ht : ReadAt wr' b t') : LoopI w f b d s wr' Xo f' s' t' A n c es := by
 refine ⟨h.fuel, h.less, h.spec, ht, h.cnt, h.lt, World.grownBy.andThen h.grown hg (fun j hj => ?_), h.own.kept hg ?_, fun X hX => ⟨(h.xok X hX).1, Nat.lt_of_lt_of_le (h.xok X hX).2.1 hg.size, (h.xok X hX).2.2⟩, fun e he => ?_⟩
 ·rcases hr j hj with rfl | hx
  ·exact .inr rfl
  ·exact .inl (h.xok j hx.symm).1
 ·cases ho : (Value.slice A n c).ownBlock with
  | none => exact .inl rfl
  | some k =>
   refine .inr fun e => ?_
   rcases hr k e.symm with rfl | hx
   ·have := (h.own.lt k ho).1; have := h.lt; omega
   ·exact (h.xok k hx.symm).2.2 ho
 ·obtain ⟨h1, es', h2, h3⟩ := h.its e he
  refine ⟨h1, es', h2.grown hg fun r hx => ?_, h3⟩
  rcases hr r hx with rfl | hx
  ·exact .inl h.lt
  ·exact .inr (.inr hx)
theorem LoopI.below (h : LoopI w f b d s wr Xo f' s' t A n c es) (hb : Below wr.heap.size wr wr') : LoopI w f b d s wr' Xo f' s' t A n c es :=
 h.step (grown_below hb none) (fun _ h => by cases h) (h.read.grown (grown_below hb none) (by simp))
theorem LoopI.new (h : LoopI w f b d s wr none f' s' t A n c es) (o : Obj) : LoopI w f b d s (wr.alloc o) (some wr.heap.size) f' s' t A n c es := by
 have h' := h.below (belowA wr o)
 refine ⟨h'.fuel, h'.less, h'.spec, h'.read, h'.cnt, h'.lt, h'.grown, h'.own, fun X hX => ?_, fun e he => ?_⟩
 ·obtain rfl := Option.some.inj hX
  refine ⟨h.grown.size, by simp, fun e => ?_⟩
  have := (h.own.lt _ e).2
  omega
 ·obtain ⟨h1, es', h2, h3⟩ := h.its e he
  refine ⟨h1, es', ?_, h3⟩
  refine Its.below (Its.no (fun k hk hn => ?_) h2) (belowA wr o)
  rcases hn with hn | hn | hn
  ·exact .inl hn
  ·exact .inr (.inl hn)
  ·injection hn with hn; omega
theorem LoopI.setX {X : Nat} (h : LoopI w f b d s wr (some X) f' s' t A n c es) (i : Nat) (v : Value) : LoopI w f b d s (wr.setCell ⟨X, i, none⟩ v) (some X) f' s' t A n c es := by
 have hne : X ≠ b := fun e => by have := (h.xok X rfl).1; have := h.lt; omega
 have hg : wr.grownBy (wr.setCell ⟨X, i, none⟩ v) (some X) := ⟨rfl, rfl, rfl, by rw [size_set]; exact Nat.le_refl _, fun k _ hk => Below.heap_setCell _ _ _ _ fun e => hk (by rw [e])⟩
 exact h.step hg (fun r hr => .inr hr.symm) (h.read.grown hg fun e => hne (Option.some.inj e))
theorem LoopI.setB (h : LoopI w f b d s wr Xo f' s' t A n c es) (t' : List UInt8) : LoopI w f b d s (wr.setCell ⟨b, 0, none⟩ (.string (mkB t'))) Xo f' s' t' A n c es := by
 have hg : wr.grownBy (wr.setCell ⟨b, 0, none⟩ (.string (mkB t'))) (some b) := ⟨rfl, rfl, rfl, by rw [size_set]; exact Nat.le_refl _, fun k _ hk => Below.heap_setCell _ _ _ _ fun e => hk (by rw [e])⟩
 exact h.step hg (fun r hr => .inl (Option.some.inj hr).symm) (h.read.set t')
theorem LoopI.push {X : Nat} (h : LoopI w f b d s wr (some X) (f' + 1) s' t A n c es) {A' : Option Addr} {c' : Nat} {e : Elt} (ho : wr'.ownsRow w.heap.size 353 4 (.slice A' (n + 1) c') (n + 1) (elts es ++ e.cells))
  (hg : wr.grownBy wr' (Value.slice A n c).ownBlock) (hA : A' = A ∨ ∀ p, A' = some p → wr.heap.size ≤ p.block) (hp : pItems (f' + 1) d s' = (pItems f' d t).map fun x => (x.1, e.times * (e.letter.length + e.L) + x.2.1, signsW e.signs (rep e.times (e.letter ++ e.W)) ++ x.2.2))
  (hl : t.length < s'.length) (hok : EltOk e) {es' : List Elt} (hi : Its wr (NoX w.heap.size (.slice A n c) (some X)) wr.heap.size (8 - d) e.A e.n es') (hL : e.L = lenE es') (hW : e.W = wordE es') :
  LoopI w f b d s wr' none f' t t A' (n + 1) c' (es ++ [e]) := by
 have hown : ∀ k, (Value.slice A n c).ownBlock = some k → w.heap.size ≤ k ∧ k < wr.heap.size := fun k hk => h.own.lt k hk
 have hmove : ∀ {m : Nat} {A2 : Option Addr} {n2 : Nat} {es2 : List Elt}, Its wr (NoX w.heap.size (.slice A n c) (some X)) wr.heap.size m A2 n2 es2 → Its wr' (NoX w.heap.size (.slice A' (n + 1) c') none) wr'.heap.size m A2 n2 es2 := fun h2 => by
  refine Its.more hg.size (Its.no (fun k hk hn => ?_) (Its.kept (fun p hp hn => hg.cell_far p hp (fun e => hn (.inr (.inl e)))) h2))
  rcases hn with hn | hn | hn
  ·exact .inl hn
  ·rcases hA with rfl | hA
   ·refine .inr (.inl ?_)
    rw [hn]
    cases A' with
    | none => rfl
    | some p => rfl
   ·exfalso
    cases A' with
    | none => simp [Value.ownBlock] at hn
    | some p =>
     have := hA p rfl
     have h3 := ho.form (by omega)
     obtain ⟨g, cap, hv, _, _⟩ := h3
     injection hv with h4
     injection h4 with h4
     subst h4
     simp [Value.ownBlock] at hn
     dsimp only at this
     omega
  ·cases hn
 refine ⟨by have := h.fuel; omega, by have := h.less; omega, ?_, h.read.grown hg fun e => ?_, by have := h.cnt; omega, h.lt, World.grownBy.andThen h.grown hg fun j hj => .inl (hown j hj).1, by rw [elts_append]; simpa [elts] using ho, (fun X hX => by cases hX), fun e2 he2 => ?_⟩
 ·rw [h.spec, hp, lenE_append, wordE_append]
  cases pItems f' d t with
  | none => rfl
  | some x => simp [lenE, wordE, Nat.add_assoc]
 ·have := (hown b e).1; have := h.lt; omega
 ·rcases List.mem_append.1 he2 with h5 | h5
  ·obtain ⟨h1, es2, h2, h3⟩ := h.its e2 h5
   exact ⟨h1, es2, hmove h2, h3⟩
  ·rw [List.mem_singleton.1 h5]
   exact ⟨hok, es', hmove hi, hL, hW⟩
end
theorem below_drew (w : World) : Below w.heap.size w w.drew := ⟨rfl, rfl, rfl, Nat.le_refl _, fun _ _ => rfl⟩
theorem pItems_one {g d : Nat} {x : UInt8} {u : List UInt8} (hx : ¬ x = 41) : pItems (g + 1) d (x :: u) = match pOne (fun t => if d < 8 then pItems g (d + 1) t else none) (x :: u) with
  | none => none
  | some r => (pItems g d r.1).map fun y => (y.1, r.2.1 + y.2.1, r.2.2 ++ y.2.2) := by
 show (if x = 41 then _ else _) = _
 rw [if_neg hx]
 cases pOne (fun t => if d < 8 then pItems g (d + 1) t else none) (x :: u) with
 | none => rfl
 | some r =>
  obtain ⟨r1, l1, w1⟩ := r
  show (match pItems g d r1 with | none => none | some (r', l', w') => some (r', l1 + l', w1 ++ w')) = _
  dsimp only
  cases pItems g d r1 with
  | none => rfl
  | some y => rfl
theorem LoopI.bad {w wr : World} {f b d n c g : Nat} {s t : List UInt8} {x : UInt8} {u : List UInt8} {A : Option Addr} {Xo : Option Nat} {es : List Elt} (h : LoopI w f b d s wr Xo (g + 1) (x :: u) t A n c es) (hx : ¬ x = 41)
  (hp : pOne (fun t => if d < 8 then pItems g (d + 1) t else none) (x :: u) = none) : ItsR w b d s (pItems f d s) badPt wr :=
 ⟨h.grown, .inl ⟨by rw [h.spec, pItems_one hx, hp]; rfl, rfl⟩⟩
theorem pOne_head {inner : List UInt8 → Option PR} {s R : List UInt8} (hR : s.dropWhile isSign = R) (h : headB R = 0) : pOne inner s = none := by
 unfold pOne
 rw [hR]
 cases R with
 | nil => rfl
 | cons c t =>
  obtain rfl : c = 0 := h
  rfl
theorem reads_at (w : World) {B0 : Nat} (hB : w.heap.size = B0) (xs : List Value) (t : TypeId) (size n : Nat) (h : xs.length = n * size) : Reads (w.alloc (.cells xs.toArray t)) (w.alloc (.cells xs.toArray t)).heap.size size (some ⟨B0, 0, none⟩) n xs := by
 subst hB; exact reads_new w xs t size n h
theorem info90 : (Tryz.prog.info? 353).map (fun i => (i.zero, i.size, i.bytes)) = some (some (.agg #[.string ⟨#[]⟩, .string ⟨#[]⟩, .slice none 0 0, .int .i64 0]), 4, 64) := by kernel_rfl
theorem dropTake_len {s S R : List UInt8} (hS : s.takeWhile isSign = S) (hR : s.dropWhile isSign = R) : S.length + R.length = s.length := by
 rw [← hS, ← hR, ← List.length_append, List.takeWhile_append_dropWhile]
theorem pOne_letter {inner : List UInt8 → Option PR} {s S t : List UInt8} {cc : UInt8} (hS : s.takeWhile isSign = S) (hR : s.dropWhile isSign = cc :: t) (hc : isL cc) : pOne inner s = some (t, 1, signsW S [cc]) := by
 unfold pOne
 rw [hR, hS]
 dsimp only
 rw [if_pos hc]
theorem LoopI.letter {w wr wr' : World} {f b d n c g X : Nat} {s t u S : List UInt8} {x cc : UInt8} {A A' : Option Addr} {c' : Nat} {es : List Elt} (h : LoopI w f b d s wr (some X) (g + 1) (x :: u) t A n c es) (hx : ¬ x = 41)
  (hS : (x :: u).takeWhile isSign = S) (hR : (x :: u).dropWhile isSign = cc :: t) (hc : isL cc) (hl : (x :: u).length ≤ 4000) (ho : wr'.ownsRow w.heap.size 353 4 (.slice A' (n + 1) c') (n + 1) (elts es ++ [.string (mkB S), .string (mkB [cc]), .slice none 0 0, .int .i64 1]))
  (hg : wr.grownBy wr' (Value.slice A n c).ownBlock) (hA : A' = A ∨ ∀ p, A' = some p → wr.heap.size ≤ p.block) : LoopI w f b d s wr' none g t t A' (n + 1) c' (es ++ [⟨S, [cc], none, 0, 0, 1, 0, []⟩]) := by
 have hlen := dropTake_len hS hR
 simp only [List.length_cons] at hlen hl
 refine h.push (e := ⟨S, [cc], none, 0, 0, 1, 0, []⟩) ho hg hA ?_ (by simp only [List.length_cons]; omega) ⟨by show S.length ≤ _; omega, by show 1 ≤ 1; omega, by show 1 ≤ 9; omega, by show 0 ≤ _; omega⟩ (Its.nil _ _ _ _) rfl rfl
 rw [pItems_one hx, pOne_letter hS hR hc]
 rfl
theorem pOne_none {inner : List UInt8 → Option PR} {s t : List UInt8} {cc : UInt8} (hR : s.dropWhile isSign = cc :: t) (hc : ¬ isL cc) (h : cc = 40 → ∀ u l w, inner t ≠ some (41 :: u, l, w)) : pOne inner s = none := by
 unfold pOne
 rw [hR]
 dsimp only
 rw [if_neg hc]
 split
 ·rename_i h40
  split
  ·rename_i u l w hx
   exact absurd hx (h h40 u l w)
  ·rfl
 ·rfl
theorem pOne_paren {inner : List UInt8 → Option PR} {s S t t2 W : List UInt8} {L : Nat} (hS : s.takeWhile isSign = S) (hR : s.dropWhile isSign = 40 :: t) (h : inner t = some (41 :: t2, L, W)) : pOne inner s = some ((pTail t2 L W).1, (pTail t2 L W).2.1, signsW S (pTail t2 L W).2.2) := by
 unfold pOne
 rw [hR, hS]
 dsimp only
 rw [if_neg (by unfold isL; decide), if_pos rfl, h]
 rfl
theorem rep_one (w : List UInt8) : rep 1 w = w := by simp [rep]
theorem pTail_dig {e : UInt8} {u : List UInt8} {L : Nat} {W : List UInt8} (h : isDig e = true) : pTail (e :: u) L W = (u, (e.toNat - 48) * L, rep (e.toNat - 48) W) := by
 show (if isDig e then _ else _) = _
 rw [if_pos h]
theorem pTail_no {t : List UInt8} {L : Nat} {W : List UInt8} (h : ∀ e u, t = e :: u → isDig e = false) : pTail t L W = (t, L, W) := by
 cases t with
 | nil => rfl
 | cons e u =>
  show (if isDig e then _ else _) = _
  rw [if_neg (by rw [h e u rfl]; decide)]
theorem Its.cellX {wr : World} {B X i k n2 : Nat} {v v' : Value} {A2 : Option Addr} {es2 : List Elt} (h : Its wr (NoX B v (some X)) wr.heap.size k A2 n2 es2) : Its (wr.setCell ⟨X, i, none⟩ v') (NoX B v (some X)) (wr.setCell ⟨X, i, none⟩ v').heap.size k A2 n2 es2 :=
 h.grown (row := some X) ⟨rfl, rfl, rfl, by rw [size_set]; exact Nat.le_refl _, fun k _ hk => Below.heap_setCell _ _ _ _ fun e => hk (by rw [e])⟩ fun r hr => .inr (.inr hr.symm)
theorem Its.cellB {wr : World} {B b k n2 : Nat} {v v' : Value} {Xo : Option Nat} {A2 : Option Addr} {es2 : List Elt} (hb : b < B) (h : Its wr (NoX B v Xo) wr.heap.size k A2 n2 es2) : Its (wr.setCell ⟨b, 0, none⟩ v') (NoX B v Xo) (wr.setCell ⟨b, 0, none⟩ v').heap.size k A2 n2 es2 :=
 h.grown (row := some b) ⟨rfl, rfl, rfl, by rw [size_set]; exact Nat.le_refl _, fun k _ hk => Below.heap_setCell _ _ _ _ fun e => hk (by rw [e])⟩ fun r hr => .inl (by injection hr with hr; omega)
theorem LoopI.paren {w wr wr' : World} {f b d n c g X k n2 c2 L : Nat} {s t u S t2 t3 W : List UInt8} {x : UInt8} {A A' A2 : Option Addr} {c' : Nat} {es es2 : List Elt} (h : LoopI w f b d s wr (some X) (g + 1) (x :: u) t3 A n c es) (hx : ¬ x = 41)
  (hS : (x :: u).takeWhile isSign = S) (hR : (x :: u).dropWhile isSign = 40 :: t) (hin : (fun t => if d < 8 then pItems g (d + 1) t else none) t = some (41 :: t2, L, W)) (hT : pTail t2 L W = (t3, k * L, rep k W)) (hk : k ≤ 9)
  (hl : (x :: u).length ≤ 4000) (hn2 : n2 ≤ t.length) (ho : wr'.ownsRow w.heap.size 353 4 (.slice A' (n + 1) c') (n + 1) (elts es ++ [.string (mkB S), .string (mkB []), .slice A2 n2 c2, .int .i64 (k : Int)]))
  (hg : wr.grownBy wr' (Value.slice A n c).ownBlock) (hA : A' = A ∨ ∀ p, A' = some p → wr.heap.size ≤ p.block) (hi : Its wr (NoX w.heap.size (.slice A n c) (some X)) wr.heap.size (8 - d) A2 n2 es2) (hL : L = lenE es2) (hW : W = wordE es2) :
  LoopI w f b d s wr' none g t3 t3 A' (n + 1) c' (es ++ [⟨S, [], A2, n2, c2, k, L, W⟩]) := by
 have hlen := dropTake_len hS hR
 simp only [List.length_cons] at hlen hl
 have hp := pOne_paren (inner := fun t => if d < 8 then pItems g (d + 1) t else none) hS hR hin
 rw [hT] at hp
 have h3 : t3.length < (x :: u).length := by
  have := pOne_len (fun t r ht => by
   split at ht
   ·exact pItems_len g (d + 1) t r ht
   ·cases ht) hp
  exact this
 refine h.push (e := ⟨S, [], A2, n2, c2, k, L, W⟩) ho hg hA ?_ h3 ⟨by show S.length ≤ _; omega, by show 0 ≤ 1; omega, hk, by show n2 ≤ _; omega⟩ hi hL hW
 rw [pItems_one hx, hp]
 simp
theorem pItems_end {g d : Nat} {s : List UInt8} (h : s = [] ∨ ∃ u, s = 41 :: u) : pItems (g + 1) d s = some (s, 0, []) := by
 rcases h with rfl | ⟨u, rfl⟩
 ·rfl
 ·rfl
theorem LoopI.fin {w wr : World} {f b d n c f' : Nat} {s s' : List UInt8} {A : Option Addr} {es : List Elt} (hd : d ≤ 8) (h : LoopI w f b d s wr none f' s' s' A n c es) (he : s' = [] ∨ ∃ u, s' = 41 :: u) :
  ItsR w b d s (pItems f d s) (.returned (.slice A n c)) wr := by
 obtain ⟨g, rfl⟩ : ∃ g, f' = g + 1 := ⟨f' - 1, by have := h.fuel; omega⟩
 refine ⟨h.grown, .inr ⟨s', lenE es, wordE es, A, n, c, es, ?_, rfl, ?_, rfl, rfl, by have := h.cnt; omega, h.read⟩⟩
 ·rw [h.spec, pItems_end he]
  simp
 ·rw [show 9 - d = (8 - d) + 1 by omega]
  refine ⟨Reads.of_own h.own, fun _ p hp hn => ?_, fun e hm => ?_⟩
  ·have := (h.own.lt p.block (by rw [hp]; obtain ⟨g', cap, hv, _⟩ := h.own.form (by assumption); rw [hp] at hv; injection hv with e1; injection e1 with e2; subst e2; rfl)).1
   omega
  ·obtain ⟨h1, es', h2, h3⟩ := h.its e hm
   exact ⟨h1, es', Its.no (fun k _ hk => .inl hk) h2, h3⟩
set_option maxRecDepth 100000 in
set_option maxHeartbeats 4000000 in
theorem items_step {f : Nat} (IH : ∀ g, g < f → ItemsC g) : ItemsC f := by
 intro d s b w hd hf hs hr
 have HR := Lib.hid hr
 clear hr
 go_enter Tryz.func316, Tryz.ntmps316
 by_cases h9 : d = 9
 ·subst h9
  have HG := Lib.hid (World.grownBy.refl w (some b))
  go_wp2_with fail
  exact ⟨rfl, HG.out, .inl ⟨rfl, rfl⟩⟩
 have h8 : d ≤ 8 := by omega
 rw [if_pos h8]
 go_wp2_with fail
 go_loopw [5] (fun o wr => ∃ f' s' A n c es, o = .slice A n c ∧ LoopI w f b d s wr none f' s' s' A n c es) (fun _ wr => lenR wr b)
 case atStart =>
  refine ⟨f, s, none, 0, 0, [], rfl, hf, Nat.le_refl _, ?_, HR.out, by omega, HR.out.box.1, World.grownBy.refl _ _, World.ownsRow_nil _ _ _ _, (fun X hX => by cases hX), fun e he => absurd he (by simp)⟩
  cases pItems f d s with
  | none => rfl
  | some x => simp [lenE, wordE]
 case round =>
  obtain ⟨f', s', A, n, c, es, rfl, hi⟩ := hrel
  have HI := Lib.hid hi
  have c0 := hi.read.c0
  clear hi
  cases s' with
  | nil =>
   have HE := Lib.hid (HI.out.fin h8 (.inl rfl))
   go_wp2_with fail
   go_ret
   exact HE.out
  | cons x u =>
   go_wp2_with fail
   with_reducible refine (peek_any b (x :: u) _ HI.out.read).mono ?_
   rintro _ w1 ⟨rfl, rfl⟩
   by_cases h41 : x = 41
   ·subst h41
    have HE := Lib.hid (HI.out.fin h8 (.inr ⟨u, rfl⟩))
    rw [show headB (41 :: u) = 41 from rfl]
    go_wp2_with fail
    go_ret
    exact HE.out
   ·have g41 : ((x.toNat : Int) == 41) = false := ne8 (n := 41) h41 (by decide)
    rw [show headB (x :: u) = x from rfl]
    have c0a : ∀ o, (w1.alloc o).cell? ⟨b, 0, none⟩ = some (.string (mkB (x :: u))) := fun o => (HI.out.read.box.alloc o).2 0
    have HX0 := Lib.hid (Box.new w1 #[.string (mkB []), .string (mkB []), .slice none 0 0, .int .i64 0] 353)
    have HZ0 := Lib.hid (fz_new w1 #[.string (mkB []), .string (mkB []), .slice none 0 0, .int .i64 0] 353)
    have HI0 := Lib.hid (HI.out.new (.cells #[.string (mkB []), .string (mkB []), .slice none 0 0, .int .i64 0] 353))
    have hxb : w1.heap.size ≠ b := fun e => by have := HI.out.read.box.1; omega
    have HLEN := Lib.hid (lenR_of HI.out.read)
    have hsl : (x :: u).length ≤ 4000 := by have := HI.out.cnt; omega
    go_wp2_with fail
    clear c0 c0a
    generalize w1.alloc (.cells #[.string (mkB []), .string (mkB []), .slice none 0 0, .int .i64 0] 353) = w2 at HX0 HZ0 HI0 ⊢
    generalize w1.heap.size = X at HX0 HZ0 HI0 hxb ⊢
    with_reducible refine (trimLeft_any (x :: u) _ (by omega)).mono ?_
    rintro _ w3 ⟨rfl, hb3⟩
    have HX3 := Lib.hid (HX0.out.below hb3)
    have HZ3 := Lib.hid (fz_below HX0.out.1 HZ0.out hb3)
    have HI3 := Lib.hid (HI0.out.below hb3)
    clear hb3 HX0 HZ0 HI0 HI
    obtain ⟨S, hS⟩ : ∃ S, (x :: u).takeWhile isSign = S := ⟨_, rfl⟩
    obtain ⟨R, hR⟩ : ∃ R, (x :: u).dropWhile isSign = R := ⟨_, rfl⟩
    have hSR : x :: u = S ++ R := by rw [← hS, ← hR, List.takeWhile_append_dropWhile]
    have HSR := Lib.hid hSR
    have HS := Lib.hid hS
    have HRR := Lib.hid hR
    have q0 : (mkB (x :: u)).size = S.length + R.length := by rw [size_mk, hSR, List.length_append]
    have q1 : (mkB R).size = R.length := size_mk R
    have q2 : (mkB (x :: u)).extract 0 S.length = mkB S := by rw [hSR, extract_mk]; simp
    have q3 : S.length + R.length ≤ 4000 := by have := congrArg List.length hSR; rw [List.length_append] at this; omega
    rw [hR]
    have c0 := HI3.out.read.c0
    have f0 := HI3.out.read.fz 0
    have x0 := HX3.out.2
    have z0 := HZ3.out
    generalize mkB (x :: u) = T at c0 q0 q2
    clear hS hR hSR
    go_wp2_with fail
    have k1 : (0 : Int) ≤ (S.length : Int) := by omega
    have k2 : (S.length : Int) ≤ (S.length : Int) + (R.length : Int) := by omega
    have wS : IntKind.i64.wrap (S.length : Int) = (S.length : Int) := IntWalk.i64_in _ (by omega)
    refine wp_region_ht [0, 1, 2, 3, 4, 5, 6, 7, 8, 9, 10, 11, 12, 13, 14, 15] [16, 17, 18, 19] (fun w => w.cell? ⟨b, 0, none⟩ = some (.string T)) mixed (by kernel_rfl) c0 ?_
    repeat
     refine canonH_step (v := ?_) rfl (by rfl) ?_ ?_
     rotate_left
     ·intro w hSw
      go_simp <;> with_reducible rfl
     simp only [List.getElem_toArray, List.getElem_cons_zero, List.getElem_cons_succ, Act.put, List.setIfInBounds_toArray, List.set_cons_succ, List.set_cons_zero]
    refine canonH_nil ?_
    have hcb : ∀ (v : Value) (w9 : World), w9.cell? ⟨b, 0, none⟩ = some (.string T) → (w9.setCell ⟨X, 0, none⟩ v).cell? ⟨b, 0, none⟩ = some (.string T) := fun v w9 h => by
     rw [World.cell?_setCell_other _ _ _ _ (fun e => hxb (by injection e))]
     exact h
    have HI4 := Lib.hid ((HI3.out.setX 0 (.string (mkB S))).setB R)
    have HX4 := Lib.hid ((HX3.out.set (i := 0) (by simp) (.string (mkB S))).far (p := ⟨b, 0, none⟩) hxb (.string (mkB R)))
    have HZ4 : Hid (∀ i, ((w3.setCell ⟨X, 0, none⟩ (.string (mkB S))).setCell ⟨b, 0, none⟩ (.string (mkB R))).frozen? ⟨X, i, none⟩ = false) := Lib.hid fun i => by
     rw [World.frozen?_setCell, World.frozen?_setCell]; exact HZ3.out i
    refine tailW_step rfl ?_
    go_wp2_with fail
    refine ⟨hcb _ _ c0, ?_⟩
    have c1 := hcb (.string (mkB S)) w3 c0
    refine tailW_step rfl ?_
    go_wp2_with fail
    refine ⟨hcb _ _ c0, ?_⟩
    refine tailW_step rfl ?_
    go_wp2_with fail
    refine ⟨hcb _ _ c0, ?_⟩
    refine tailW_last rfl ?_
    go_wp2_with fail
    refine NoPanic.normal ?_
    clear hcb c1 x0 z0 c0 f0 q0 q2 k1 k2 wS HX3 HZ3 HI3
    have HI5 := Lib.hid (HI4.out.below (below_drew _))
    have HX5 : Hid (Box ((w3.setCell ⟨X, 0, none⟩ (.string (mkB S))).setCell ⟨b, 0, none⟩ (.string (mkB R))).drew X #[.string (mkB S), .string (mkB []), .slice none 0 0, .int .i64 0]) := Lib.hid HX4.out.drew
    have HZ5 : Hid (∀ i, ((w3.setCell ⟨X, 0, none⟩ (.string (mkB S))).setCell ⟨b, 0, none⟩ (.string (mkB R))).drew.frozen? ⟨X, i, none⟩ = false) := Lib.hid (fz_drew HZ4.out)
    clear HX4 HZ4 HI4
    generalize ((w3.setCell ⟨X, 0, none⟩ (.string (mkB S))).setCell ⟨b, 0, none⟩ (.string (mkB R))).drew = w5 at HI5 HX5 HZ5 ⊢
    obtain ⟨g, rfl⟩ : ∃ g, f' = g + 1 := ⟨f' - 1, by have := HI5.out.fuel; omega⟩
    have q5 : R.length ≤ 1000000 := by omega
    go_wp2_with fail
    with_reducible refine (take_any b R _ HI5.out.read q5).mono ?_
    rintro _ w6 (⟨hh, rfl, rfl⟩ | ⟨cc, t, rfl, rfl, rfl⟩)
    ·have HE := Lib.hid (HI5.out.bad h41 (pOne_head HRR.out hh))
     clear hh
     go_wp2_with fail
     exact ⟨rfl, HE.out⟩
    have HI6 := Lib.hid (HI5.out.setB t)
    have HX6 := Lib.hid (HX5.out.far (p := ⟨b, 0, none⟩) hxb (.string (mkB t)))
    have HZ6 : Hid (∀ i, (w5.setCell ⟨b, 0, none⟩ (.string (mkB t))).frozen? ⟨X, i, none⟩ = false) := Lib.hid fun i => by rw [World.frozen?_setCell]; exact HZ5.out i
    clear HI5 HX5 HZ5
    generalize w5.setCell ⟨b, 0, none⟩ (.string (mkB t)) = w6 at HI6 HX6 HZ6 ⊢
    by_cases hL : isL cc
    ·have x0 := HX6.out.2
     have z0 := HZ6.out
     rcases hL with rfl | rfl | rfl | rfl
     ·have CV : ∀ w, (convert 5 9 (.int .u8 97)).run Tryz.prog w = .ok (.string (mkB [97])) w := fun w => by kernel_rfl
      have HRD := Lib.hid (reads_at ((w6.setCell ⟨X, 1, none⟩ (.string (mkB [97]))).setCell ⟨X, 3, none⟩ (.int .i64 1)) (B0 := w6.heap.size) (by rw [size_set, size_set]) [.string (mkB S), .string (mkB [97]), .slice none 0 0, .int .i64 1] 353 4 1 rfl)
      have HI7 := Lib.hid (((HI6.out.setX 1 (.string (mkB [97]))).setX 3 (.int .i64 1)).below (belowA _ (.cells #[.string (mkB S), .string (mkB [97]), .slice none 0 0, .int .i64 1] 353)))
      have hn : n + 1 ≤ 1000000 := by have := HI6.out.cnt; simp only [List.length_cons] at this; omega
      go_wp2_with (at_builtin; refine wpList_pushXm rfl _ _ 328 353 rfl Tryz.underlying328 info90 rfl (by decide) (by decide) w.heap.size _ A n c (elts es) _ 1 1 [.string (mkB S), .string (mkB [97]), .slice none 0 0, .int .i64 1] rfl HI7.out.own HI7.out.grown.size rfl HRD.out (by intro u hu; simp only [List.mem_cons, List.not_mem_nil, or_false] at hu; rcases hu with rfl | rfl | rfl | rfl <;> rfl) (by omega) ?_; intro A' c' w8 ho hg hA; have HI8 := Lib.hid (HI7.out.letter h41 HS.out HRR.out (by unfold isL; decide) hsl ho hg hA); clear ho hg hA HI7 HRD HI6 HX6 HZ6 x0 z0)
      go_roundw
      case rel => exact ⟨g, t, A', n + 1, c', _, rfl, HI8.out⟩
      case measure =>
       have h1 := dropTake_len HS.out HRR.out
       rw [lenR_of HI8.out.read, HLEN.out]
       simp only [List.length_cons] at h1 ⊢
       omega
     ·have CV : ∀ w, (convert 5 9 (.int .u8 65)).run Tryz.prog w = .ok (.string (mkB [65])) w := fun w => by kernel_rfl
      have HRD := Lib.hid (reads_at ((w6.setCell ⟨X, 1, none⟩ (.string (mkB [65]))).setCell ⟨X, 3, none⟩ (.int .i64 1)) (B0 := w6.heap.size) (by rw [size_set, size_set]) [.string (mkB S), .string (mkB [65]), .slice none 0 0, .int .i64 1] 353 4 1 rfl)
      have HI7 := Lib.hid (((HI6.out.setX 1 (.string (mkB [65]))).setX 3 (.int .i64 1)).below (belowA _ (.cells #[.string (mkB S), .string (mkB [65]), .slice none 0 0, .int .i64 1] 353)))
      have hn : n + 1 ≤ 1000000 := by have := HI6.out.cnt; simp only [List.length_cons] at this; omega
      go_wp2_with (at_builtin; refine wpList_pushXm rfl _ _ 328 353 rfl Tryz.underlying328 info90 rfl (by decide) (by decide) w.heap.size _ A n c (elts es) _ 1 1 [.string (mkB S), .string (mkB [65]), .slice none 0 0, .int .i64 1] rfl HI7.out.own HI7.out.grown.size rfl HRD.out (by intro u hu; simp only [List.mem_cons, List.not_mem_nil, or_false] at hu; rcases hu with rfl | rfl | rfl | rfl <;> rfl) (by omega) ?_; intro A' c' w8 ho hg hA; have HI8 := Lib.hid (HI7.out.letter h41 HS.out HRR.out (by unfold isL; decide) hsl ho hg hA); clear ho hg hA HI7 HRD HI6 HX6 HZ6 x0 z0)
      go_roundw
      case rel => exact ⟨g, t, A', n + 1, c', _, rfl, HI8.out⟩
      case measure =>
       have h1 := dropTake_len HS.out HRR.out
       rw [lenR_of HI8.out.read, HLEN.out]
       simp only [List.length_cons] at h1 ⊢
       omega
     ·have CV : ∀ w, (convert 5 9 (.int .u8 98)).run Tryz.prog w = .ok (.string (mkB [98])) w := fun w => by kernel_rfl
      have HRD := Lib.hid (reads_at ((w6.setCell ⟨X, 1, none⟩ (.string (mkB [98]))).setCell ⟨X, 3, none⟩ (.int .i64 1)) (B0 := w6.heap.size) (by rw [size_set, size_set]) [.string (mkB S), .string (mkB [98]), .slice none 0 0, .int .i64 1] 353 4 1 rfl)
      have HI7 := Lib.hid (((HI6.out.setX 1 (.string (mkB [98]))).setX 3 (.int .i64 1)).below (belowA _ (.cells #[.string (mkB S), .string (mkB [98]), .slice none 0 0, .int .i64 1] 353)))
      have hn : n + 1 ≤ 1000000 := by have := HI6.out.cnt; simp only [List.length_cons] at this; omega
      go_wp2_with (at_builtin; refine wpList_pushXm rfl _ _ 328 353 rfl Tryz.underlying328 info90 rfl (by decide) (by decide) w.heap.size _ A n c (elts es) _ 1 1 [.string (mkB S), .string (mkB [98]), .slice none 0 0, .int .i64 1] rfl HI7.out.own HI7.out.grown.size rfl HRD.out (by intro u hu; simp only [List.mem_cons, List.not_mem_nil, or_false] at hu; rcases hu with rfl | rfl | rfl | rfl <;> rfl) (by omega) ?_; intro A' c' w8 ho hg hA; have HI8 := Lib.hid (HI7.out.letter h41 HS.out HRR.out (by unfold isL; decide) hsl ho hg hA); clear ho hg hA HI7 HRD HI6 HX6 HZ6 x0 z0)
      go_roundw
      case rel => exact ⟨g, t, A', n + 1, c', _, rfl, HI8.out⟩
      case measure =>
       have h1 := dropTake_len HS.out HRR.out
       rw [lenR_of HI8.out.read, HLEN.out]
       simp only [List.length_cons] at h1 ⊢
       omega
     ·have CV : ∀ w, (convert 5 9 (.int .u8 66)).run Tryz.prog w = .ok (.string (mkB [66])) w := fun w => by kernel_rfl
      have HRD := Lib.hid (reads_at ((w6.setCell ⟨X, 1, none⟩ (.string (mkB [66]))).setCell ⟨X, 3, none⟩ (.int .i64 1)) (B0 := w6.heap.size) (by rw [size_set, size_set]) [.string (mkB S), .string (mkB [66]), .slice none 0 0, .int .i64 1] 353 4 1 rfl)
      have HI7 := Lib.hid (((HI6.out.setX 1 (.string (mkB [66]))).setX 3 (.int .i64 1)).below (belowA _ (.cells #[.string (mkB S), .string (mkB [66]), .slice none 0 0, .int .i64 1] 353)))
      have hn : n + 1 ≤ 1000000 := by have := HI6.out.cnt; simp only [List.length_cons] at this; omega
      go_wp2_with (at_builtin; refine wpList_pushXm rfl _ _ 328 353 rfl Tryz.underlying328 info90 rfl (by decide) (by decide) w.heap.size _ A n c (elts es) _ 1 1 [.string (mkB S), .string (mkB [66]), .slice none 0 0, .int .i64 1] rfl HI7.out.own HI7.out.grown.size rfl HRD.out (by intro u hu; simp only [List.mem_cons, List.not_mem_nil, or_false] at hu; rcases hu with rfl | rfl | rfl | rfl <;> rfl) (by omega) ?_; intro A' c' w8 ho hg hA; have HI8 := Lib.hid (HI7.out.letter h41 HS.out HRR.out (by unfold isL; decide) hsl ho hg hA); clear ho hg hA HI7 HRD HI6 HX6 HZ6 x0 z0)
      go_roundw
      case rel => exact ⟨g, t, A', n + 1, c', _, rfl, HI8.out⟩
      case measure =>
       have h1 := dropTake_len HS.out HRR.out
       rw [lenR_of HI8.out.read, HLEN.out]
       simp only [List.length_cons] at h1 ⊢
       omega
    ·have g97 : ((cc.toNat : Int) == 97) = false := ne8 (n := 97) (fun e => hL (.inl e)) (by decide)
     have g65 : ((cc.toNat : Int) == 65) = false := ne8 (n := 65) (fun e => hL (.inr (.inl e))) (by decide)
     have g98 : ((cc.toNat : Int) == 98) = false := ne8 (n := 98) (fun e => hL (.inr (.inr (.inl e)))) (by decide)
     have g66 : ((cc.toNat : Int) == 66) = false := ne8 (n := 66) (fun e => hL (.inr (.inr (.inr e)))) (by decide)
     by_cases h40 : cc = 40
     ·subst h40
      clear g97 g65 g98 g66
      have hgf : g < f := by have := HI6.out.less; omega
      have htl : t.length < (x :: u).length := by
       have h1 := dropTake_len HS.out HRR.out
       simp only [List.length_cons] at h1 ⊢
       omega
      have htg : t.length < g := by have := HI6.out.fuel; omega
      have IHC := IH g hgf (d + 1) t b w6 (by omega) htg (by omega) HI6.out.read
      go_wp2_with fail
      rw [show ((d : Int) + 1) = ((d + 1 : Nat) : Int) by push_cast; rfl]
      with_reducible refine IHC.mono ?_
      clear IHC
      rintro _ w7 ⟨hg7, ⟨hnone, rfl⟩ | ⟨rest, L, W, A2, n2, c2, es2, hsome, rfl, hits, hL2, hW2, hn2, hread⟩⟩
      ·have HE : Hid (ItsR w b d s (pItems f d s) badPt w7) := Lib.hid ⟨World.grownBy.trans HI6.out.grown hg7, .inl ⟨by
        rw [HI6.out.spec, pItems_one h41, pOne_none HRR.out hL (fun _ u l w => by
         by_cases hd8 : d < 8
         ·rw [if_pos (by omega)] at hnone
          rw [if_pos hd8, hnone]
          simp
         ·rw [if_neg hd8]
          simp)]
        rfl, rfl⟩⟩
       clear hg7 hnone
       go_wp2_with fail
       exact ⟨rfl, HE.out⟩
      have HI7 := Lib.hid (HI6.out.step hg7 (fun r hr => .inl (Option.some.inj hr).symm) hread)
      have HX7 := Lib.hid (HX6.out.grown hg7 (fun k hk => by obtain rfl := Option.some.inj hk; exact fun e => hxb e.symm))
      have HZ7 := Lib.hid (fz_grown HX6.out.1 HZ6.out hg7 (fun k hk => by obtain rfl := Option.some.inj hk; exact fun e => hxb e.symm))
      have hits2 : Its w7 (NoX w.heap.size (.slice A n c) (some X)) w7.heap.size (8 - d) A2 n2 es2 := by
       rw [show 9 - (d + 1) = 8 - d by omega] at hits
       refine Its.no (fun k _ hk => ?_) hits
       rcases hk with hk | hk | hk
       ·have := HI6.out.grown.size; omega
       ·exact (HI6.out.own.lt k hk.symm).2
       ·injection hk with hk; have := (HI6.out.xok X rfl).2.1; omega
      have HJ7 := Lib.hid hits2
      have HIN : Hid ((fun t => if d < 8 then pItems g (d + 1) t else none) t = some (rest, L, W)) := Lib.hid (by
       have hd8 : d < 8 := by
        rcases Nat.lt_or_ge d 8 with h | h
        ·exact h
        ·rw [if_neg (by omega)] at hsome; cases hsome
       rw [if_pos (by omega)] at hsome
       show (if d < 8 then pItems g (d + 1) t else none) = _
       rw [if_pos hd8, hsome])
      have HLL := Lib.hid hL2.symm
      have HWW := Lib.hid hW2.symm
      have HN2 := Lib.hid hn2
      clear hits hits2 hsome hL2 hW2 hn2 hg7 hread HX6 HZ6
      have hn : n + 1 ≤ 1000000 := by have := HI6.out.cnt; omega
      clear HI6
      have x0 := HX7.out.2
      have z0 := HZ7.out
      have hbw : b < w.heap.size := HI7.out.lt
      have HI8 := Lib.hid ((HI7.out.setX 2 (.slice A2 n2 c2)).setX 3 (.int .i64 1))
      have HJ8 : Hid (Its ((w7.setCell ⟨X, 2, none⟩ (.slice A2 n2 c2)).setCell ⟨X, 3, none⟩ (.int .i64 1)) (NoX w.heap.size (.slice A n c) (some X)) ((w7.setCell ⟨X, 2, none⟩ (.slice A2 n2 c2)).setCell ⟨X, 3, none⟩ (.int .i64 1)).heap.size (8 - d) A2 n2 es2) := Lib.hid (Its.cellX (Its.cellX HJ7.out))
      have hrt : rest.length ≤ t.length := by
       have := HIN.out
       dsimp only at this
       split at this
       ·exact pItems_len g (d + 1) t _ this
       ·cases this
      have hrl : rest.length ≤ 1000000 := by omega
      go_wp2_with fail
      with_reducible refine (take_any b rest _ HI8.out.read hrl).mono ?_
      have HX8 := Lib.hid ((HX7.out.set (i := 2) (by simp) (.slice A2 n2 c2)).set (i := 3) (by simp) (.int .i64 1))
      have HZ8 : Hid (∀ i, ((w7.setCell ⟨X, 2, none⟩ (.slice A2 n2 c2)).setCell ⟨X, 3, none⟩ (.int .i64 1)).frozen? ⟨X, i, none⟩ = false) := Lib.hid fun i => by rw [World.frozen?_setCell, World.frozen?_setCell]; exact HZ7.out i
      clear x0 z0 HX7 HZ7 HI7 HJ7
      generalize ((w7.setCell ⟨X, 2, none⟩ (.slice A2 n2 c2)).setCell ⟨X, 3, none⟩ (.int .i64 1)) = wp at HI8 HJ8 HX8 HZ8 ⊢
      have HX8' : Hid (Box wp X #[.string (mkB S), .string (mkB []), .slice A2 n2 c2, .int .i64 1]) := Lib.hid HX8.out
      clear HX8
      rintro _ w9 (⟨hh, rfl, rfl⟩ | ⟨c3, t2, rfl, rfl, rfl⟩)
      ·have HE := Lib.hid (HI8.out.bad h41 (pOne_none HRR.out hL (fun _ u l w e => by
        rw [HIN.out] at e
        injection e with e
        injection e with e
        rw [e] at hh
        exact absurd (show (41 : UInt8) = 0 from hh) (by decide))))
       clear hh
       go_wp2_with fail
       exact ⟨rfl, HE.out⟩
      have HI10 := Lib.hid (HI8.out.setB t2)
      have HX10 := Lib.hid (HX8'.out.far (p := ⟨b, 0, none⟩) hxb (.string (mkB t2)))
      have HZ10 : Hid (∀ i, (wp.setCell ⟨b, 0, none⟩ (.string (mkB t2))).frozen? ⟨X, i, none⟩ = false) := Lib.hid fun i => by rw [World.frozen?_setCell]; exact HZ8.out i
      have HJ10 := Lib.hid (Its.cellB (v' := .string (mkB t2)) hbw HJ8.out)
      clear HI8 HX8' HZ8 HJ8
      generalize wp.setCell ⟨b, 0, none⟩ (.string (mkB t2)) = wq at HI10 HX10 HZ10 HJ10 ⊢
      by_cases h3 : c3 = 41
      ·subst h3
       have x0 := HX10.out.2
       have z0 := HZ10.out
       go_wp2_with fail
       with_reducible refine (peek_any b t2 _ HI10.out.read).mono ?_
       rintro _ wq ⟨rfl, rfl⟩
       by_cases hdg : ∃ e t3, t2 = e :: t3 ∧ isDig e = true
       ·obtain ⟨e, t3, rfl, hdd⟩ := hdg
        have HTL := Lib.hid (pTail_dig (u := t3) (L := L) (W := W) hdd)
        simp only [isDig, Bool.and_eq_true, decide_eq_true_eq] at hdd
        obtain ⟨k, hk⟩ : ∃ k : Nat, e.toNat = k + 48 := ⟨e.toNat - 48, by omega⟩
        have HTL2 : Hid (pTail (e :: t3) L W = (t3, k * L, rep k W)) := Lib.hid (by
         have := HTL.out
         rwa [hk, Nat.add_sub_cancel] at this)
        have hk9 : k ≤ 9 := by omega
        have ek : (e.toNat : Int) = (k : Int) + 48 := by omega
        have k57 : (k : Int) + 48 ≤ 57 := by omega
        have k48 : (48 : Int) ≤ (k : Int) + 48 := by omega
        have hll : (e :: t3).length ≤ 1000000 := by simp only [List.length_cons] at hrl ⊢; omega
        clear HTL hdd hk
        have w1k : IntKind.u8.wrap (k : Int) = (k : Int) := by rw [IntKind.wrap_u8]; omega
        have w2k : IntKind.i64.wrap (k : Int) = (k : Int) := IntWalk.i64_in _ (by omega)
        rw [show ((headB (e :: t3)).toNat : Int) = (k : Int) + 48 from ek]
        go_wp2_with fail
        with_reducible refine (take_any b (e :: t3) _ HI10.out.read hll).mono ?_
        rintro _ w11 (⟨hh, rfl, rfl⟩ | ⟨e', t3', he, rfl, rfl⟩)
        ·exfalso
         obtain rfl : e = 0 := hh
         simp at ek
         omega
        obtain ⟨rfl, rfl⟩ := List.cons.inj he
        rw [ek]
        have HX12 := Lib.hid (HX10.out.far (p := ⟨b, 0, none⟩) hxb (.string (mkB t3)))
        have x1 := HX12.out.2
        have z1 : ∀ i, (wq.setCell ⟨b, 0, none⟩ (.string (mkB t3))).frozen? ⟨X, i, none⟩ = false := fun i => by rw [World.frozen?_setCell]; exact z0 i
        clear x0 z0 he ek
        have HRD := Lib.hid (reads_at (((wq.setCell ⟨b, 0, none⟩ (.string (mkB t3))).setCell ⟨X, 3, none⟩ (.int .i64 (k : Int)))) (B0 := wq.heap.size) (by simp only [size_set]) [.string (mkB S), .string (mkB []), .slice A2 n2 c2, .int .i64 (k : Int)] 353 4 1 rfl)
        have HI13 := Lib.hid (((HI10.out.setB t3).setX 3 (.int .i64 (k : Int))).below (belowA _ (.cells #[.string (mkB S), .string (mkB []), .slice A2 n2 c2, .int .i64 (k : Int)] 353)))
        have HJ13 := Lib.hid (Its.below (Its.cellX (i := 3) (v' := .int .i64 (k : Int)) (Its.cellB (v' := .string (mkB t3)) hbw HJ10.out)) (belowA _ (.cells #[.string (mkB S), .string (mkB []), .slice A2 n2 c2, .int .i64 (k : Int)] 353)))
        go_wp2_with (at_builtin; refine wpList_pushXm rfl _ _ 328 353 rfl Tryz.underlying328 info90 rfl (by decide) (by decide) w.heap.size _ A n c (elts es) _ 1 1 [.string (mkB S), .string (mkB []), .slice A2 n2 c2, .int .i64 (k : Int)] rfl HI13.out.own HI13.out.grown.size rfl HRD.out (by intro u hu; simp only [List.mem_cons, List.not_mem_nil, or_false] at hu; rcases hu with rfl | rfl | rfl | rfl <;> rfl) (by omega) ?_; intro A' c' w8 ho hg hA; have HI14 := Lib.hid (HI13.out.paren (k := k) h41 HS.out HRR.out HIN.out HTL2.out (by omega) hsl HN2.out ho hg hA HJ13.out HLL.out HWW.out); clear ho hg hA HI13 HJ13 HRD x1 z1 HX10 HX12 HZ10 HI10 HJ10)
        go_roundw
        case rel => exact ⟨g, t3, A', n + 1, c', _, rfl, HI14.out⟩
        case measure =>
         rw [lenR_of HI14.out.read, HLEN.out]
         simp only [List.length_cons] at hrt htl ⊢
         omega

       ·have hno : ∀ e u, t2 = e :: u → isDig e = false := fun e u h => by
         cases hx : isDig e with
         | false => rfl
         | true => exact absurd ⟨e, u, h, hx⟩ hdg
        have HTL : Hid (pTail t2 L W = (t2, 1 * L, rep 1 W)) := Lib.hid (by rw [pTail_no hno, Nat.one_mul, rep_one])
        have hcase : (¬ (48 : Int) ≤ ((headB t2).toNat : Int)) ∨ ((48 : Int) ≤ ((headB t2).toNat : Int) ∧ ¬ ((headB t2).toNat : Int) ≤ 57) := by
         cases t2 with
         | nil => exact .inl (by show ¬ (48 : Int) ≤ ((0 : UInt8).toNat : Int); decide)
         | cons e u =>
          have := hno e u rfl
          simp only [isDig, Bool.and_eq_false_iff, decide_eq_false_iff_not] at this
          show (¬ (48 : Int) ≤ (e.toNat : Int)) ∨ ((48 : Int) ≤ (e.toNat : Int) ∧ ¬ (e.toNat : Int) ≤ 57)
          omega
        clear hdg hno
        rcases hcase with k48 | ⟨k48, k57⟩
        ·have HRD := Lib.hid (reads_at wq (B0 := wq.heap.size) rfl [.string (mkB S), .string (mkB []), .slice A2 n2 c2, .int .i64 1] 353 4 1 rfl)
         have HI13 := Lib.hid ((HI10.out).below (belowA _ (.cells #[.string (mkB S), .string (mkB []), .slice A2 n2 c2, .int .i64 1] 353)))
         have HJ13 := Lib.hid (Its.below (HJ10.out) (belowA _ (.cells #[.string (mkB S), .string (mkB []), .slice A2 n2 c2, .int .i64 1] 353)))
         go_wp2_with (at_builtin; refine wpList_pushXm rfl _ _ 328 353 rfl Tryz.underlying328 info90 rfl (by decide) (by decide) w.heap.size _ A n c (elts es) _ 1 1 [.string (mkB S), .string (mkB []), .slice A2 n2 c2, .int .i64 1] rfl HI13.out.own HI13.out.grown.size rfl HRD.out (by intro u hu; simp only [List.mem_cons, List.not_mem_nil, or_false] at hu; rcases hu with rfl | rfl | rfl | rfl <;> rfl) (by omega) ?_; intro A' c' w8 ho hg hA; have HI14 := Lib.hid (HI13.out.paren (k := 1) h41 HS.out HRR.out HIN.out HTL.out (by omega) hsl HN2.out ho hg hA HJ13.out HLL.out HWW.out); clear ho hg hA HI13 HJ13 HRD x0 z0 HX10 HZ10 HI10 HJ10)
         go_roundw
         case rel => exact ⟨g, t2, A', n + 1, c', _, rfl, HI14.out⟩
         case measure =>
          rw [lenR_of HI14.out.read, HLEN.out]
          simp only [List.length_cons] at hrt htl ⊢
          omega
        ·have HRD := Lib.hid (reads_at wq (B0 := wq.heap.size) rfl [.string (mkB S), .string (mkB []), .slice A2 n2 c2, .int .i64 1] 353 4 1 rfl)
         have HI13 := Lib.hid ((HI10.out).below (belowA _ (.cells #[.string (mkB S), .string (mkB []), .slice A2 n2 c2, .int .i64 1] 353)))
         have HJ13 := Lib.hid (Its.below (HJ10.out) (belowA _ (.cells #[.string (mkB S), .string (mkB []), .slice A2 n2 c2, .int .i64 1] 353)))
         go_wp2_with (at_builtin; refine wpList_pushXm rfl _ _ 328 353 rfl Tryz.underlying328 info90 rfl (by decide) (by decide) w.heap.size _ A n c (elts es) _ 1 1 [.string (mkB S), .string (mkB []), .slice A2 n2 c2, .int .i64 1] rfl HI13.out.own HI13.out.grown.size rfl HRD.out (by intro u hu; simp only [List.mem_cons, List.not_mem_nil, or_false] at hu; rcases hu with rfl | rfl | rfl | rfl <;> rfl) (by omega) ?_; intro A' c' w8 ho hg hA; have HI14 := Lib.hid (HI13.out.paren (k := 1) h41 HS.out HRR.out HIN.out HTL.out (by omega) hsl HN2.out ho hg hA HJ13.out HLL.out HWW.out); clear ho hg hA HI13 HJ13 HRD x0 z0 HX10 HZ10 HI10 HJ10)
         go_roundw
         case rel => exact ⟨g, t2, A', n + 1, c', _, rfl, HI14.out⟩
         case measure =>
          rw [lenR_of HI14.out.read, HLEN.out]
          simp only [List.length_cons] at hrt htl ⊢
          omega
      ·have g3 : ((c3.toNat : Int) == 41) = false := ne8 (n := 41) h3 (by decide)
       have HE := Lib.hid (HI10.out.bad h41 (pOne_none HRR.out hL (fun _ u l w e => by
        rw [HIN.out] at e
        injection e with e
        injection e with e
        injection e with e
        exact h3 e)))
       clear h3
       go_wp2_with fail
       exact ⟨rfl, HE.out⟩
     ·have g40 : ((cc.toNat : Int) == 40) = false := ne8 (n := 40) h40 (by decide)
      have HE := Lib.hid (HI6.out.bad h41 (pOne_none HRR.out hL (fun e => absurd e h40)))
      clear hL h40
      go_wp2_with fail
      exact ⟨rfl, HE.out⟩
theorem items_all (f : Nat) : ItemsC f := by
 induction f using Nat.strongRecOn with
 | ind f ih => exact items_step ih
end Go.Proofs.YtihhclhpjgeniaaGreatDoor
