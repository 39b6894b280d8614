/- Merged texts: Hw O1 O2 O3 Cn Co Cx O4 Fo Fp Rw Wb Hp -/
import Derived.Test.YtihhclhpjgeniaaGreatDoorSA2
import Derived.Test.YtihhclhpjgeniaaGreatDoorSA4
import Derived.Test.YtihhclhpjgeniaaGreatDoorSA6
import Derived.Test.YtihhclhpjgeniaaGreatDoorSA7
import Derived.Lib.AtoiAll
import Derived.Lib.IndexMore
import Derived.Lib.IndexLaws
import Derived.Lib.ItoaNum
import Derived.Lib.ItoaLen
namespace Go.Proofs.YtihhclhpjgeniaaGreatDoor
open Go.RowKit Go.Sort
section
variable {P : Program} {ops : Array Oper} {md : Region.Mode} {Q : Exit → Act → World → Prop} {S : World → Prop} {Rl : World → World → Prop}
end
end Go.Proofs.YtihhclhpjgeniaaGreatDoor
namespace Go.Proofs.YtihhclhpjgeniaaGreatDoor
open Go.RowKit Go.Sort
def age (e : Ent) : Int := e.2.2.1.1 + e.2.2.1.2.1 + e.2.2.1.2.2
abbrev ebox (e : Ent) : Obj := .cells #[.int .i64 e.1, .int .i64 e.2.1, .int .i64 e.2.2.1.1, .int .i64 e.2.2.1.2.1, .int .i64 e.2.2.1.2.2, .string e.2.2.2] 47
end Go.Proofs.YtihhclhpjgeniaaGreatDoor
namespace Go.Proofs.YtihhclhpjgeniaaGreatDoor
open Go.RowKit Go.Sort Go.Shelf
def aheadE (x y : Ent) : Prop := age x < age y ∨ (age x = age y ∧ x.1 < y.1)
instance (x y : Ent) : Decidable (aheadE x y) := inferInstanceAs (Decidable (_ ∨ _))
section
variable {α : Type} [Inhabited α] {enc : α → Value}
end
end Go.Proofs.YtihhclhpjgeniaaGreatDoor
namespace Go.Proofs.YtihhclhpjgeniaaGreatDoor
open Go.RowKit Go.Sort
theorem info3b : (Tryz.prog.info? 3).map (fun i => (i.zero, i.size, i.bytes)) = some (some (.int .i64 0), 1, 8) := by kernel_rfl
theorem madeCells_zero (n : Nat) : (madeCells #[.int .i64 0] n).toList = ints (List.replicate n 0) := by
  apply List.ext_getElem?
  intro i
  simp [madeCells, ints, List.getElem?_replicate]
  by_cases h : i < n <;> simp [h, Nat.mod_one]
theorem mk46 (n : Nat) (hn : n ≤ 1000000) (w : World) : (Instr.makeSlice 54 (.int .i64 (n : Int)) (.int .i64 (n : Int))).run Tryz.prog w = .ok (.slice (some ⟨w.heap.size, 0, none⟩) n n) (w.alloc (.cells (madeCells #[.int .i64 0] n) 3)) := by
  obtain ⟨i0, hi, hz0, hz1, hz2⟩ := info_parts info3b
  have h := run_make (P := Tryz.prog) w 54 3 i0 _ Tryz.underlying54 hi hz0 .i64 .i64 n n (by omega) (Int.le_refl _) (by rw [hz2]; omega) (by omega)
  rw [hz1, Int.toNat_natCast, Nat.mul_one] at h
  exact h
end Go.Proofs.YtihhclhpjgeniaaGreatDoor
namespace Go.Proofs.YtihhclhpjgeniaaGreatDoor
open Go.RowKit Go.Sort
instance : DecidableEq ByteArray := fun a b => decidable_of_iff (a.data = b.data) ⟨fun h => by cases a; cases b; simp at h; subst h; rfl, fun h => h ▸ rfl⟩
instance : DecidableEq Ent := by unfold Ent; infer_instance
instance (e : Ent) (l : List Ent) : Decidable (e ∈ l) := decidable_of_iff (∃ x ∈ l, x = e) ⟨fun ⟨_, h, h2⟩ => h2 ▸ h, fun h => ⟨e, h, rfl⟩⟩
theorem wrong_not {es : List Ent} {e : Ent} (h : ¬ wrong es e) :
    (∀ p : Nat, p < 3 → ((p : Int) = e.1 → e.sn p = e.2.1 - 1) ∧ 0 ≤ e.sn p ∧ e.sn p ≤ clk es p) ∧ ∀ f ∈ es, sawE e f = true → ∀ p : Nat, p < 3 → f.sn p ≤ e.sn p := by
  unfold wrong at h
  constructor
  · intro p hp
    have : ¬ badP es e p := fun hb => h (.inl ⟨p, hp, hb⟩)
    unfold badP at this
    omega
  · intro f hf hs p hp
    have : ¬ e.sn p < f.sn p := fun hlt => h (.inr ⟨f, hf, hs, p, hp, hlt⟩)
    omega
theorem wrong_intro {es : List Ent} {e : Ent} (h1 : ∀ p : Nat, p < 3 → ((p : Int) = e.1 → e.sn p = e.2.1 - 1) ∧ 0 ≤ e.sn p ∧ e.sn p ≤ clk es p) (h2 : ∀ f ∈ es, sawE e f = true → ∀ p : Nat, p < 3 → f.sn p ≤ e.sn p) : ¬ wrong es e := by
  rintro (⟨p, hp, hb⟩ | ⟨f, hf, hs, p, hp, hlt⟩)
  · have := h1 p hp
    unfold badP at hb
    omega
  · have := h2 f hf hs p hp
    omega
theorem sawE_iff {e f : Ent} : sawE e f = true ↔ f.2.1 ≤ e.sn f.1 := by unfold sawE; rw [decide_eq_true_eq]
section
variable {a b c x : List Ent}
theorem Card.sn (h : Card c) {e : Ent} (he : e ∈ c) {p : Nat} (hp : p < 3) : 0 ≤ e.sn p ∧ e.sn p ≤ clk c p := ((wrong_not (h.saw e he)).1 p hp).2
theorem Card.up (h : Card c) {e f : Ent} (he : e ∈ c) (hf : f ∈ c) (hs : sawE e f = true) {p : Nat} (hp : p < 3) : f.sn p ≤ e.sn p := (wrong_not (h.saw e he)).2 f hf hs p hp
theorem Card.sorted (h : Card c) : c.Pairwise keyLt := Ord_sorted h.ord
def noPart (a b : List Ent) : Prop := ∀ e ∈ a, ∀ f ∈ b, e.1 = f.1 → e.2.1 = f.2.1 → e = f
instance (a b : List Ent) : Decidable (noPart a b) := by unfold noPart; infer_instance
def ofP (c : List Ent) (p : Int) : List Ent := c.filter fun e => decide (e.1 = p)
theorem mem_ofP {c : List Ent} {p : Int} {e : Ent} : e ∈ ofP c p ↔ e ∈ c ∧ e.1 = p := by unfold ofP; rw [List.mem_filter, decide_eq_true_eq]
theorem card_pl (h : Card c) {e : Ent} (he : e ∈ c) : e.1 = 0 ∨ e.1 = 1 ∨ e.1 = 2 := by have := h.txt e he; unfold okT at this; omega
theorem three_sorted {l0 l1 l2 : List Ent} (h0 : l0.Pairwise keyLt) (h1 : l1.Pairwise keyLt) (h2 : l2.Pairwise keyLt) (p0 : ∀ e ∈ l0, e.1 = 0) (p1 : ∀ e ∈ l1, e.1 = 1) (p2 : ∀ e ∈ l2, e.1 = 2) : (l0 ++ l1 ++ l2).Pairwise keyLt := by
  rw [List.pairwise_append, List.pairwise_append]
  refine ⟨⟨h0, h1, fun x hx y hy => ?_⟩, h2, fun x hx y hy => ?_⟩
  · have := p0 x hx; have := p1 y hy; unfold keyLt; omega
  · have := p2 y hy
    rcases List.mem_append.1 hx with hx | hx
    · have := p0 x hx; unfold keyLt; omega
    · have := p1 x hx; unfold keyLt; omega
end
end Go.Proofs.YtihhclhpjgeniaaGreatDoor
namespace Go.Proofs.YtihhclhpjgeniaaGreatDoor
open Go.RowKit Go.Sort
section
variable {a b c x : List Ent}
def newE (c : List Ent) (p : Int) (t : ByteArray) : Ent := (p, (clk c p : Int) + 1, ((clk c 0 : Nat), (clk c 1 : Nat), (clk c 2 : Nat)), t)
def addL (c : List Ent) (p : Int) (t : ByteArray) (q : Int) : List Ent := ofP c q ++ if q = p then [newE c p t] else []
def addR (c : List Ent) (p : Int) (t : ByteArray) : List Ent := addL c p t 0 ++ addL c p t 1 ++ addL c p t 2
def addE (c : List Ent) (p : Int) (t : ByteArray) : Int := if val c ≠ 0 then val c else if p < 0 ∨ 2 < p ∨ right t = false then 1 else if 60 ≤ c.length then 4 else 0
theorem newE_sn (c : List Ent) (p : Int) (t : ByteArray) {q : Nat} (hq : q < 3) : (newE c p t).sn q = (clk c q : Nat) := by
  rcases (show q = 0 ∨ q = 1 ∨ q = 2 by omega) with rfl | rfl | rfl <;> rfl
theorem mem_addL {p : Int} {t : ByteArray} {q : Int} {e : Ent} : e ∈ addL c p t q ↔ (e ∈ c ∧ e.1 = q) ∨ (q = p ∧ e = newE c p t) := by
  unfold addL
  rw [List.mem_append, mem_ofP]
  by_cases h : q = p <;> simp [h]
theorem mem_addR (hc : Card c) {p : Int} (h0 : 0 ≤ p) (h2 : p ≤ 2) {t : ByteArray} {e : Ent} : e ∈ addR c p t ↔ e ∈ c ∨ e = newE c p t := by
  unfold addR
  simp only [List.mem_append, mem_addL]
  by_cases h1 : e ∈ c
  · have := card_pl hc h1
    simp [h1]; omega
  · by_cases hn : e = newE c p t
    · simp [hn]; omega
    · simp [h1, hn]
theorem addR_sorted (hc : Card c) (p : Int) (t : ByteArray) : (addR c p t).Pairwise keyLt := by
  have one : ∀ q : Int, (addL c p t q).Pairwise keyLt := fun q => by
    unfold addL
    rw [List.pairwise_append]
    refine ⟨hc.sorted.filter _, ?_, fun x hx y hy => ?_⟩
    · split
      · exact List.pairwise_singleton _ _
      · exact List.Pairwise.nil
    · split at hy
      · rename_i hq
        rw [List.mem_singleton.1 hy]
        obtain ⟨x1, x2⟩ := mem_ofP.1 hx
        have := (Ord_num hc.ord x x1).2
        subst hq
        rw [x2] at this
        refine .inr ⟨x2, ?_⟩
        show x.2.1 < (clk c q : Int) + 1
        omega
      · cases hy
  have pl : ∀ q : Int, ∀ e ∈ addL c p t q, e.1 = q := fun q e he => by
    rcases mem_addL.1 he with ⟨_, h⟩ | ⟨h, rfl⟩
    · exact h
    · exact h.symm
  exact three_sorted (one 0) (one 1) (one 2) (pl 0) (pl 1) (pl 2)
theorem add_perm (hc : Card c) {p : Int} {t : ByteArray} : (c ++ [newE c p t]).Nodup ∧ ∀ e ∈ c ++ [newE c p t], ∀ f ∈ c ++ [newE c p t], e.1 = f.1 → e.2.1 = f.2.1 → e = f := by
  have far : ∀ e ∈ c, e.1 = p → e.2.1 = (clk c p : Int) + 1 → False := fun e he h1 h2 => by
    have := (Ord_num hc.ord e he).2
    rw [h1] at this
    omega
  constructor
  · rw [List.nodup_append]
    refine ⟨sorted_nodup hc.sorted, by simp, fun x hx y hy e => ?_⟩
    subst e
    rw [List.mem_singleton] at hy
    exact far x hx (by rw [hy]; rfl) (by rw [hy]; rfl)
  · intro e he f hf h1 h2
    rcases List.mem_append.1 he with he | he <;> rcases List.mem_append.1 hf with hf | hf
    · exact sorted_inj hc.sorted he hf h1 h2
    · rw [List.mem_singleton] at hf; subst hf
      exact (far e he h1 h2).elim
    · rw [List.mem_singleton] at he; subst he
      exact (far f hf h1.symm h2.symm).elim
    · rw [List.mem_singleton] at he hf
      rw [he, hf]
theorem add_sort (hc : Card c) {p : Int} (h0 : 0 ≤ p) (h2 : p ≤ 2) {t : ByteArray} {l : List Ent} (hp : l.Perm (c ++ [newE c p t])) (hs : l.Pairwise fun x y => ¬ keyLt y x) : l = addR c p t := by
  obtain ⟨nd, inj⟩ := add_perm hc (p := p) (t := t)
  refine sorted_ext (sorted_of_sort hp hs nd inj) (addR_sorted hc p t) (fun e => ?_)
  rw [hp.mem_iff, mem_addR hc h0 h2]
  simp
theorem addR_length (hc : Card c) {p : Int} (h0 : 0 ≤ p) (h2 : p ≤ 2) {t : ByteArray} : (addR c p t).length = c.length + 1 := by
  obtain ⟨nd, inj⟩ := add_perm hc (p := p) (t := t)
  have : (addR c p t).Perm (c ++ [newE c p t]) := (List.perm_ext_iff_of_nodup (sorted_nodup (addR_sorted hc p t)) nd).2 fun e => by
    rw [mem_addR hc h0 h2]; simp
  rw [this.length_eq]
  simp
theorem clk_mono_of {x y : List Ent} (hx : Ord x) (hy : Ord y) (h : ∀ e ∈ x, e ∈ y) (p : Int) : clk x p ≤ clk y p := by
  rcases Nat.eq_zero_or_pos (clk x p) with h0 | h0
  · omega
  · obtain ⟨f, hf, f1, f2⟩ := Ord_all hx (s := clk x p) (p := p) (by omega) (Int.le_refl _)
    have := (Ord_num hy f (h f hf)).2
    rw [f1] at this
    omega
theorem card_add (hc : Card c) {p : Int} (h0 : 0 ≤ p) (h2 : p ≤ 2) {t : ByteArray} (ht : right t = true) (hl : c.length < 60) : Card (addR c p t) := by
  have M : ∀ e, e ∈ addR c p t ↔ e ∈ c ∨ e = newE c p t := fun e => mem_addR hc h0 h2
  have ho : Ord (addR c p t) := by
    refine Ord_of (addR_sorted hc p t) (fun e he => ?_) (fun e he h => ?_)
    · rcases (M e).1 he with he | rfl
      · exact (Ord_num hc.ord e he).1
      · show 1 ≤ (clk c p : Int) + 1
        omega
    · rcases (M e).1 he with he | rfl
      · obtain ⟨f, hf, f1, f2⟩ := Ord_all hc.ord (s := e.2.1 - 1) (p := e.1) (by omega) (by have := (Ord_num hc.ord e he).2; omega)
        exact ⟨f, (M f).2 (.inl hf), f1, f2⟩
      · obtain ⟨f, hf, f1, f2⟩ := Ord_all hc.ord (s := (clk c p : Int)) (p := p) (by change 2 ≤ (clk c p : Int) + 1 at h; omega) (Int.le_refl _)
        refine ⟨f, (M f).2 (.inl hf), f1, ?_⟩
        show f.2.1 = (clk c p : Int) + 1 - 1
        omega
  have mono : ∀ q, clk c q ≤ clk (addR c p t) q := clk_mono_of hc.ord ho fun e he => (M e).2 (.inl he)
  refine ⟨by rw [addR_length hc h0 h2]; omega, fun e he => ?_, ho, fun e he => ?_⟩
  · rcases (M e).1 he with he | rfl
    · exact hc.txt e he
    · exact ⟨h0, h2, ht⟩
  · rcases (M e).1 he with he | rfl
    · refine wrong_intro (fun q hq => ⟨fun h => ((wrong_not (hc.saw e he)).1 q hq).1 h, (hc.sn he hq).1, ?_⟩) (fun f hf hs q hq => ?_)
      · have := (hc.sn he hq).2
        have := mono q
        omega
      · rcases (M f).1 hf with hf | rfl
        · exact hc.up he hf hs hq
        · rw [sawE_iff] at hs
          change (clk c p : Int) + 1 ≤ e.sn p at hs
          obtain ⟨k, hk⟩ := Int.eq_ofNat_of_zero_le h0
          subst hk
          rename_i he'
          have := (hc.sn he' (p := k) (by omega)).2
          omega
    · refine wrong_intro (fun q hq => ⟨fun h => ?_, ?_, ?_⟩) (fun f hf hs q hq => ?_)
      · rw [newE_sn c p t hq]
        change (q : Int) = p at h
        show (clk c q : Int) = (clk c p : Int) + 1 - 1
        rw [h]; omega
      · rw [newE_sn c p t hq]; omega
      · rw [newE_sn c p t hq]
        have := mono q
        omega
      · rw [newE_sn c p t hq]
        rcases (M f).1 hf with hf | rfl
        · exact (hc.sn hf hq).2
        · rw [newE_sn c p t hq]
          exact Int.le_refl _
theorem addE_zero {p : Int} {t : ByteArray} : addE c p t = 0 ↔ Card c ∧ 0 ≤ p ∧ p ≤ 2 ∧ right t = true ∧ c.length < 60 := by
  unfold addE
  constructor
  · intro h
    split at h
    · rename_i h1; exact absurd h h1
    rename_i h1
    split at h
    · exact absurd h (by decide)
    rename_i h2
    split at h
    · exact absurd h (by decide)
    rename_i h3
    refine ⟨val_zero.1 (Classical.not_not.1 h1), by omega, by omega, ?_, by omega⟩
    cases hr : right t
    · exact absurd (.inr (.inr hr)) h2
    · rfl
  · rintro ⟨h1, h2, h3, h4, h5⟩
    rw [if_neg (fun h => h (val_zero.2 h1)), if_neg (by rw [h4]; simp; omega), if_neg (by omega)]
end
end Go.Proofs.YtihhclhpjgeniaaGreatDoor
namespace Go.Proofs.YtihhclhpjgeniaaGreatDoor
open Go.RowKit Go.Sort
section
variable {a b c x : List Ent}
def okC (c : List Ent) (t : Nat → Int) : Prop := ∀ p : Nat, p < 3 → 0 ≤ t p ∧ t p ≤ clk c p
instance (c : List Ent) (t : Nat → Int) : Decidable (okC c t) := by unfold okC; infer_instance
end
end Go.Proofs.YtihhclhpjgeniaaGreatDoor
namespace Go.Proofs.YtihhclhpjgeniaaGreatDoor
open Go.RowKit Go.Sort
section
variable {es : List Ent}
end
end Go.Proofs.YtihhclhpjgeniaaGreatDoor
namespace Go.Proofs.YtihhclhpjgeniaaGreatDoor
def lowC (c : UInt8) : Bool := 97 ≤ c.toNat && c.toNat ≤ 122
def digC (c : UInt8) : Bool := 48 ≤ c.toNat && c.toNat ≤ 57
def firstC : List UInt8 → Bool
  | [] => false
  | c :: _ => lowC c
def okName (s : List UInt8) : Bool := decide (1 ≤ s.length) && decide (s.length ≤ 8) && firstC s && s.all fun c => lowC c || digC c
end Go.Proofs.YtihhclhpjgeniaaGreatDoor
namespace Go.Proofs.YtihhclhpjgeniaaGreatDoor
end Go.Proofs.YtihhclhpjgeniaaGreatDoor
namespace Go.Proofs.YtihhclhpjgeniaaGreatDoor
open Go.RowKit Go.Sort
section
variable {c c' : List Ent}
end
end Go.Proofs.YtihhclhpjgeniaaGreatDoor
namespace Go.Proofs.YtihhclhpjgeniaaGreatDoor
open Go.RowKit Go.Sort
abbrev isB (w : World) (B b : Nat) (l : List UInt8) : Prop := Lib.IsBuilder 192 5 B b (Lib.byteCells l) w
theorem isB_new (w : World) : isB (w.alloc (.cells #[.pointer none, .slice none 0 0] 192)) w.heap.size w.heap.size [] :=
  .inl ⟨Nat.le_refl _, .slice none 0 0, heap_alloc_new w _, World.ownsRow_nil _ _ _ _, by simp [Value.ownBlock]⟩
theorem byteCells_append (a b : List UInt8) : Lib.byteCells a ++ Lib.strCells ⟨b.toArray⟩ = Lib.byteCells (a ++ b) := by
  simp [Lib.byteCells, Lib.strCells]
theorem ws_any (B b : Nat) (l r : List UInt8) (w : World) (h : isB w B b l) (hlen : l.length + r.length ≤ 1000000) (hBw : B ≤ w.heap.size) :
    Calls Tryz.prog 126 #[.pointer (some ⟨b, 0, none⟩), .string ⟨r.toArray⟩] w fun e w' => (∃ n, e = .returned (.tuple #[.int .i64 n, .nilIface])) ∧ isB w' B b (l ++ r) ∧ Below B w w' ∧ Lib.OthersKept 5 (some b) w w' :=
  (writeString_any B b (Lib.byteCells l) ⟨r.toArray⟩ w h (by rw [Lib.byteCells_length]; show _ + r.toArray.size ≤ _; simpa using hlen) hBw).mono fun e w' ⟨h1, h2, h3, h4⟩ => ⟨⟨_, h1⟩, .inr (by rw [byteCells_append] at h2; exact h2), h3, h4⟩
theorem bs_any (B b : Nat) (l : List UInt8) (w : World) (h : isB w B b l) (hBw : B ≤ w.heap.size) :
    Calls Tryz.prog 127 #[.pointer (some ⟨b, 0, none⟩)] w fun e w' => e = .returned (.string ⟨l.toArray⟩) ∧ Below B w w' := Tryz.Builder_String_any B b l w h hBw
abbrev At (w : World) (b : Nat) (cs : Array Value) (t : TypeId) : Prop := w.heap[b]? = some (.cells cs t (0, 0))
theorem At.below {w w' : World} {b : Nat} {cs : Array Value} {t : TypeId} (h : At w b cs t) (hb : Below w.heap.size w w') : At w' b cs t :=
  (hb.block b (Array.getElem?_eq_some_iff.1 h).1).trans h
def fits (n : Int) : Prop := -9223372036854775808 ≤ n ∧ n ≤ 9223372036854775807
abbrev Tab (w : World) : Prop := Lib.TabIs Tryz.prog w "internal/strconv.uint64pow10" .u64 Lib.pow10Tab
theorem tab_glob : Tryz.prog.globalNamed "internal/strconv.uint64pow10" = some 0 := by kernel_rfl
theorem tab_size {w : World} (h : Tab w) : 0 < w.heap.size := by
  simp only [Tab, Lib.TabIs, World.var?, tab_glob, Option.bind_some] at h
  rcases Nat.lt_or_ge 0 w.heap.size with h1 | h1
  · exact h1
  · rw [Array.getElem?_eq_none h1] at h; cases h
theorem tab_kept {w w' : World} {b : Nat} (h : Tab w) (hb : Below b w w') (hk : 0 < b) : Tab w' := by
  simp only [Tab, Lib.TabIs, World.var?, tab_glob, Option.bind_some] at h ⊢
  rw [hb.block 0 hk]
  exact h
theorem tab_below {w w' : World} (h : Tab w) (hb : Below w.heap.size w w') : Tab w' := tab_kept h hb (tab_size h)
theorem itoa_any (n : Int) (w : World) (h : fits n) (ht : Tab w) : Calls Tryz.prog 25 #[.int .i64 n] w fun r w' => r = .returned (.string ⟨(Lib.itoa n).toArray⟩) ∧ Below w.heap.size w w' :=
  (Tryz.strconv_Itoa n h.1 h.2 w ht).mono fun r w' ⟨h1, k, os, h2⟩ => ⟨h1, by rw [h2]; exact below_drewGrow w k os⟩
theorem itoa_len {n : Int} (h : fits n) : (Lib.itoa n).length ≤ 21 := Lib.itoa_length_le n h.1 h.2
end Go.Proofs.YtihhclhpjgeniaaGreatDoor
namespace Go.Proofs.YtihhclhpjgeniaaGreatDoor
open Go.RowKit
abbrev Lck := Nat → Nat → Int
structure Hr where
  R : List Int
  W : List Int
deriving DecidableEq
def at1 (l : List Int) : Nat → Int
  | 0 => 0
  | n + 1 => l.getD n 0
def Hr.op (b : Hr) : Lck := fun k n => if k = 0 then at1 b.R n else if k = 1 then at1 b.W n else 0
def trimL (l : List Int) : List Int := (l.reverse.dropWhile (· == 0)).reverse
def lens (h : Lck) (k : Nat) : List Int := (List.range 24).map fun i => h k (i + 1)
def tieH (h : Lck) : Hr := ⟨trimL (lens h 0), trimL (lens h 1)⟩
def noH : Hr := ⟨[], []⟩
structure Hr.Ok (b : Hr) : Prop where
  r : b.R.length ≤ 24
  w : b.W.length ≤ 24
  br : ∀ z ∈ b.R, 0 ≤ z ∧ z ≤ 1000000
  bw : ∀ z ∈ b.W, 0 ≤ z ∧ z ≤ 1000000
def Lck.In (h : Lck) (M : Int) : Prop := ∀ k n, 0 ≤ h k n ∧ h k n ≤ M
theorem Lck.In.mono {h : Lck} {M N : Int} (k : h.In M) (hM : M ≤ N) : h.In N := fun i n => ⟨(k i n).1, by have := (k i n).2; omega⟩
theorem at1_in {l : List Int} (h : ∀ z ∈ l, 0 ≤ z ∧ z ≤ 1000000) : ∀ n, 0 ≤ at1 l n ∧ at1 l n ≤ 1000000
  | 0 => by simp [at1]
  | n + 1 => by
    show 0 ≤ l.getD n 0 ∧ l.getD n 0 ≤ 1000000
    rw [List.getD_eq_getElem?_getD]
    rcases Nat.lt_or_ge n l.length with hn | hn
    · rw [List.getElem?_eq_getElem hn]
      exact h _ (List.getElem_mem hn)
    · rw [List.getElem?_eq_none hn]; simp
theorem Hr.Ok.op {b : Hr} (h : b.Ok) : b.op.In 1000000 := fun k n => by
  unfold Hr.op
  split
  · exact at1_in h.br n
  · split
    · exact at1_in h.bw n
    · omega
theorem at1_far {l : List Int} (h : l.length ≤ 24) {n : Nat} (hn : 24 < n) : at1 l n = 0 := by
  cases n with
  | zero => rfl
  | succ n =>
    show l.getD n 0 = 0
    rw [List.getD_eq_getElem?_getD, List.getElem?_eq_none (by omega)]; rfl
theorem noH_ok : noH.Ok := ⟨by simp [noH], by simp [noH], by simp [noH], by simp [noH]⟩
theorem trimL_zero (l : List Int) : trimL (l ++ [0]) = trimL l := by simp [trimL]
theorem trimL_snoc (l : List Int) {x : Int} (h : x ≠ 0) : trimL (l ++ [x]) = l ++ [x] := by simp [trimL, h]
theorem trimL_take (l : List Int) : ∃ m, m ≤ l.length ∧ trimL l = l.take m := by
  refine snoc_ind (P := fun l => ∃ m, m ≤ l.length ∧ trimL l = l.take m) ⟨0, by simp, rfl⟩ ?_ l
  · intro l x ih
    obtain ⟨m, hm, he⟩ := ih
    by_cases h : x = 0
    · subst h
      exact ⟨m, by simp; omega, by rw [trimL_zero, he, List.take_append_of_le_length hm]⟩
    · exact ⟨l.length + 1, by simp, by rw [trimL_snoc l h, List.take_of_length_le (by simp)]⟩
theorem trimL_mem {l : List Int} {x : Int} (h : x ∈ trimL l) : x ∈ l := by
  obtain ⟨m, _, he⟩ := trimL_take l
  rw [he] at h
  exact List.mem_of_mem_take h
theorem trimL_len (l : List Int) : (trimL l).length ≤ l.length := by
  obtain ⟨m, hm, he⟩ := trimL_take l
  rw [he, List.length_take]; omega
theorem at1_trim : ∀ (l : List Int) (n : Nat), at1 (trimL l) n = at1 l n := by
  intro l
  refine snoc_ind (P := fun l => ∀ n, at1 (trimL l) n = at1 l n) (fun n => rfl) ?_ l
  · intro l x ih n
    by_cases h : x = 0
    · subst h
      rw [trimL_zero, ih]
      cases n with
      | zero => rfl
      | succ n =>
        show l.getD n 0 = (l ++ [0]).getD n 0
        simp only [List.getD_eq_getElem?_getD]
        rcases Nat.lt_trichotomy n l.length with hn | hn | hn
        · rw [List.getElem?_append_left hn]
        · subst hn; simp
        · rw [List.getElem?_eq_none (by omega), List.getElem?_eq_none (by simp; omega)]
    · rw [trimL_snoc l h]
theorem lens_length (h : Lck) (k : Nat) : (lens h k).length = 24 := by simp [lens]
theorem lens_get (h : Lck) (k : Nat) {i : Nat} (hi : i < 24) : (lens h k)[i]? = some (h k (i + 1)) := by simp [lens, hi]
theorem at1_lens (h : Lck) (k : Nat) {n : Nat} (h0 : 0 < n) (hn : n ≤ 24) : at1 (lens h k) n = h k n := by
  obtain ⟨m, rfl⟩ : ∃ m, n = m + 1 := ⟨n - 1, by omega⟩
  show (lens h k).getD m 0 = _
  rw [List.getD_eq_getElem?_getD, lens_get h k (by omega)]; rfl
theorem op_tie (h : Lck) {k n : Nat} (hk : k < 2) (h0 : 0 < n) (hn : n ≤ 24) : (tieH h).op k n = h k n := by
  unfold Hr.op tieH
  rcases (show k = 0 ∨ k = 1 by omega) with rfl | rfl
  · rw [if_pos rfl, at1_trim, at1_lens h 0 h0 hn]
  · rw [if_neg (by omega), if_pos rfl, at1_trim, at1_lens h 1 h0 hn]
theorem lens_mem {h : Lck} {k : Nat} {z : Int} (hz : z ∈ lens h k) : ∃ n, 1 ≤ n ∧ n ≤ 24 ∧ z = h k n := by
  simp only [lens, List.mem_map, List.mem_range] at hz
  obtain ⟨i, hi, rfl⟩ := hz
  exact ⟨i + 1, by omega, by omega, rfl⟩
theorem tie_ok {h : Lck} (hh : ∀ k, k < 2 → ∀ n, 1 ≤ n → n ≤ 24 → 0 ≤ h k n ∧ h k n ≤ 1000000) : (tieH h).Ok := by
  refine ⟨?_, ?_, ?_, ?_⟩
  · exact Nat.le_trans (trimL_len _) (by rw [lens_length]; omega)
  · exact Nat.le_trans (trimL_len _) (by rw [lens_length]; omega)
  · intro z hz
    obtain ⟨n, a, b, rfl⟩ := lens_mem (trimL_mem hz)
    exact hh 0 (by omega) n a b
  · intro z hz
    obtain ⟨n, a, b, rfl⟩ := lens_mem (trimL_mem hz)
    exact hh 1 (by omega) n a b
theorem tie_congr {h g : Lck} (hh : ∀ k, k < 2 → ∀ n, 1 ≤ n → n ≤ 24 → h k n = g k n) : tieH h = tieH g := by
  have e : ∀ k, k < 2 → lens h k = lens g k := fun k hk => by
    unfold lens
    refine List.map_congr_left fun i hi => hh k hk _ (by omega) (by have := List.mem_range.1 hi; omega)
  unfold tieH
  rw [e 0 (by omega), e 1 (by omega)]
def sumTo (f : Nat → Int) : Nat → Int
  | 0 => 0
  | n + 1 => sumTo f n + f (n + 1)
def cntH (h : Lck) : Int := sumTo (fun n => h 0 n + h 1 n) 24
theorem sumTo_in {f : Nat → Int} {M : Int} (h : ∀ n, 0 ≤ f n ∧ f n ≤ M) : ∀ n, 0 ≤ sumTo f n ∧ sumTo f n ≤ M * n
  | 0 => by simp [sumTo]
  | n + 1 => by
    have a := sumTo_in h n
    have b := h (n + 1)
    have e : M * ((n + 1 : Nat) : Int) = M * n + M := by push_cast; rw [Int.mul_add]; omega
    rw [e]
    show 0 ≤ sumTo f n + f (n + 1) ∧ sumTo f n + f (n + 1) ≤ _
    omega
theorem sumTo_congr {f g : Nat → Int} : ∀ {n : Nat}, (∀ i, 1 ≤ i → i ≤ n → f i = g i) → sumTo f n = sumTo g n
  | 0, _ => rfl
  | n + 1, h => by
    show sumTo f n + f (n + 1) = sumTo g n + g (n + 1)
    rw [sumTo_congr (fun i h1 h2 => h i h1 (by omega)), h (n + 1) (by omega) (by omega)]
theorem sumTo_add (f g : Nat → Int) : ∀ n, sumTo (fun i => f i + g i) n = sumTo f n + sumTo g n
  | 0 => rfl
  | n + 1 => by
    show sumTo (fun i => f i + g i) n + (f (n + 1) + g (n + 1)) = (sumTo f n + f (n + 1)) + (sumTo g n + g (n + 1))
    rw [sumTo_add f g n]; omega
theorem cnt_tie (h : Lck) : cntH (tieH h).op = cntH h := sumTo_congr fun i h1 h2 => by rw [op_tie h (by omega) h1 h2, op_tie h (by omega) h1 h2]
theorem cnt_in {h : Lck} {M : Int} (k : h.In M) : 0 ≤ cntH h ∧ cntH h ≤ (M + M) * 24 := sumTo_in (fun n => by have := k 0 n; have := k 1 n; omega) 24
def big (h : Lck) : Bool := (List.range 24).any fun i => decide (1000000 < h 0 (i + 1)) || decide (1000000 < h 1 (i + 1))
theorem big_no {h : Lck} (k : big h = false) : ∀ w, w < 2 → ∀ n, 1 ≤ n → n ≤ 24 → h w n ≤ 1000000 := by
  intro w hw n h1 h2
  simp only [big, List.any_eq_false, List.mem_range] at k
  have := k (n - 1) (by omega)
  rw [show n - 1 + 1 = n by omega] at this
  simp at this
  rcases (show w = 0 ∨ w = 1 by omega) with rfl | rfl
  · exact this.1
  · exact this.2
def fin (h : Lck) : Int × Hr := if big h then (4, noH) else (0, tieH h)
def mixH (a b : Hr) : Int × Hr := fin fun k n => a.op k n + b.op k n
def turnL (h : Lck) : Lck := fun k n => if k = 0 then h 0 n + h 1 n else 0
def turnH (a : Hr) : Int × Hr := fin (turnL a.op)
def tk (h : Lck) (n : Int) (m : Nat) (k : Nat) : Int := if k = 0 then min n (h 0 m) else n - min n (h 0 m)
def takeL (h : Lck) (m : Nat) (r : Nat → Int) : Lck := fun k n => if n = m then h k n - r k else h k n
def giveL (h : Lck) (m : Nat) (r : Nat → Int) : Lck := fun k n => if n = m then h k n + r k else h k n
def snapL (h : Lck) (len at' : Nat) (n : Int) : Lck := giveL (giveL (takeL h len (tk h n len)) at' (tk h n len)) (len - at') (tk h n len)
def snapH (a : Hr) (len at' n : Int) : Int × Hr :=
  if len < 2 ∨ 24 < len ∨ at' < 1 ∨ len ≤ at' ∨ n < 0 then (1, noH)
  else if a.op 0 len.toNat + a.op 1 len.toNat < n then (6, noH)
  else fin (snapL a.op len.toNat at'.toNat n)
def keptL (h : Lck) (least : Nat) : Lck := fun k n => if n < least then 0 else h k n
def shortL (h : Lck) (least : Nat) : Lck := fun k n => if n < least then h k n else 0
def hackH (a : Hr) (least : Int) : Int × Hr × Hr :=
  if least < 1 ∨ 25 < least then (1, noH, noH) else (0, tieH (keptL a.op least.toNat), tieH (shortL a.op least.toNat))
def lft (h : Lck) (n : Int) : Nat → Int
  | 0 => n
  | d + 1 => lft h n d - min (lft h n d) (h 0 (24 - d) + h 1 (24 - d))
def dr (h : Lck) (n : Int) (m k : Nat) : Int := tk h (min (lft h n (24 - m)) (h 0 m + h 1 m)) m k
def drawL (h : Lck) (n : Int) : Lck := fun k m => if m = 0 ∨ 24 < m then 0 else dr h n m k
def restL (h : Lck) (n : Int) : Lck := fun k m => if m = 0 ∨ 24 < m then h k m else h k m - dr h n m k
def drawH (a : Hr) (n : Int) : Int × Hr × Hr :=
  if n < 0 then (1, noH, noH) else if cntH a.op < n then (6, noH, noH) else (0, tieH (drawL a.op n), tieH (restL a.op n))
def cin : Nat → Nat → Lck → Int → Lck × Int
  | 0, _, h, need => (h, need)
  | c + 1, j, h, need => cin c (j + 1) (takeL h j (tk h (min need (h 0 j + h 1 j)) j)) (need - min need (h 0 j + h 1 j))
def cout (y : Lck) : Nat → Lck → Option Lck
  | 0, h => some h
  | i + 1, h => if 0 < (cin (24 - i) (i + 1) h (y 0 (i + 1) + y 1 (i + 1))).2 then none else cout y i (cin (24 - i) (i + 1) h (y 0 (i + 1) + y 1 (i + 1))).1
def cutH (a y : Hr) : Int × Hr := match cout y.op 24 a.op with
  | none => (6, noH)
  | some h => (0, tieH h)
end Go.Proofs.YtihhclhpjgeniaaGreatDoor
