/- Merged texts: Sk Ce C1 C2 C3 C4 -/
import Derived.Test.YtihhclhpjgeniaaGreatDoorSB1
import Derived.Shelf.SlSortCmp.NoneTotal
import Derived.Laws.IdiomStrings
namespace Go.Proofs.YtihhclhpjgeniaaGreatDoor
open Go.RowKit Go.Sort Go.Lib
section
variable {α : Type} [Inhabited α] {enc : α → List Value} {k : Nat}
omit [Inhabited α] in
theorem flatMap_len (hk : ∀ x, (enc x).length = k) (l : List α) : (l.flatMap enc).length = l.length * k := by
 induction l with
 | nil => simp
 | cons a l ih => rw [List.flatMap_cons, List.length_append, ih, hk, List.length_cons, Nat.add_mul]; omega
theorem flatMap_get (hk : ∀ x, (enc x).length = k) (l : List α) (t : Nat) (h : t < l.length * k) : (l.flatMap enc)[t]? = some (enc (l.toArray[t / k]!))[t % k]! := by
 have k0 : 0 < k := by
  rcases Nat.eq_zero_or_pos k with h0 | h0
  ·subst h0; simp at h
  ·exact h0
 induction l generalizing t with
 | nil => simp at h
 | cons a l ih =>
  rw [List.flatMap_cons]
  by_cases hlt : t < k
  ·rw [List.getElem?_append_left (by rw [hk]; exact hlt), Nat.div_eq_of_lt hlt, Nat.mod_eq_of_lt hlt]
   rw [List.getElem?_eq_getElem (by rw [hk]; exact hlt)]
   simp [getElem!_pos, hk, hlt]
  ·rw [List.getElem?_append_right (by rw [hk]; omega), hk]
   have h' : t - k < l.length * k := by rw [List.length_cons, Nat.add_mul] at h; omega
   rw [ih (t - k) h']
   have e1 : t / k = (t - k) / k + 1 := by rw [← Nat.add_div_right _ k0]; congr 1; omega
   have e2 : t % k = (t - k) % k := by rw [← Nat.add_mod_right (t - k) k]; congr 1; omega
   rw [e1, e2]
   have hd : (t - k) / k < l.length := Nat.div_lt_of_lt_mul (by rw [Nat.mul_comm]; exact h')
   simp [getElem!_pos, hd]
theorem flatK_list (hk : ∀ x, (enc x).length = k) (l : List α) : (flatK enc k l.toArray).toList = l.flatMap enc := by
 apply List.ext_getElem?
 intro t
 by_cases h : t < l.length * k
 ·rw [flatMap_get hk l t h]
  have hs : t < (flatK enc k l.toArray).size := by rw [size_flatK]; simpa using h
  rw [Array.getElem?_toList, Array.getElem?_eq_getElem hs, ← get_flatK enc k l.toArray t (by simpa using h), getElem!_pos _ t hs]
 ·rw [List.getElem?_eq_none (l := l.flatMap enc) (by rw [flatMap_len hk]; omega), Array.getElem?_toList, Array.getElem?_eq_none (by rw [size_flatK]; simpa using h)]
theorem holdsK_of_row (hk : ∀ x, (enc x).length = k) {w : World} {g : Nat} {cur : Array Value} {e : TypeId} {l : List α} (hb : w.heap[g]? = some (.cells cur e (0, 0))) (ht : cur.toList.take (l.length * k) = l.flatMap enc) :
  HoldsK enc k w g 0 l.toArray := by
 intro j hj
 rw [size_flatK] at hj
 have hj' : j < l.length * k := by simpa using hj
 refine ⟨?_, by simp [World.frozen?, hb]⟩
 have h1 : (cur.toList.take (l.length * k))[j]? = (l.flatMap enc)[j]? := by rw [ht]
 rw [List.getElem?_take_of_lt hj', flatMap_get hk l j hj'] at h1
 simp only [World.cell?, hb, Nat.zero_add]
 simp only [Option.isSome_none, Bool.false_eq_true, if_false]
 rw [← Array.getElem?_toList, h1, get_flatK enc k l.toArray j (by simpa using hj')]
 rfl
theorem heap_sortedK {w : World} {g n : Nat} {os : Array Obj} {cur : Array Value} {e : TypeId} {fr : Nat × Nat} (d : Array α) (hb : w.heap[g]? = some (.cells cur e fr)) :
  (sortWorldK enc k w g 0 n d os).heap[g]? = some (.cells (putCells id 0 (flatK enc k d) cur) e fr) := by
 have hg : g < w.heap.size := (Array.getElem?_eq_some_iff.1 hb).1
 unfold sortWorldK putRowK
 rw [heap_grow_old _ _ (by simpa using hg)]
 simp [putRow, mapBlock, Sort.ahead, Array.getElem?_modify, hb, onCells]
theorem grownBy_sortedK {w : World} {g n : Nat} {os : Array Obj} (d : Array α) : w.grownBy (sortWorldK enc k w g 0 n d os) (some g) := by
 unfold sortWorldK putRowK
 refine ⟨rfl, rfl, rfl, by simp, fun j hj hne => ?_⟩
 rw [heap_grow_old _ _ (by simpa using hj)]
 have : g ≠ j := fun e => hne (by rw [e])
 simp [putRow, mapBlock, Sort.ahead, Array.getElem?_modify, this]
theorem take_putCellsK (cur F : Array Value) (h : F.size ≤ cur.size) : (putCells id 0 F cur).toList.take F.size = F.toList := by
 apply List.ext_getElem?
 intro j
 by_cases hj : j < F.size
 ·rw [List.getElem?_take_of_lt hj, Array.getElem?_toList]
  simp [putCells, hj, show j < cur.size by omega]
 ·rw [List.getElem?_take_eq_none (by omega), List.getElem?_eq_none (by simp; omega)]
theorem ownsRow_sortedK (hk : ∀ x, (enc x).length = k) {w : World} {base g cap m : Nat} {e : TypeId} {os : Array Obj} {cur : Array Value} {l t : List α} (hl : t.length = l.length) (hbase : base ≤ g) (hb : w.heap[g]? = some (.cells cur e (0, 0)))
  (h1 : l.length ≤ cap) (h2 : cap ≤ maxLen) (h3 : cur.size = cap * k) :
  (sortWorldK enc k w g 0 m t.toArray os).ownsRow base e k (.slice (some ⟨g, 0, none⟩) l.length cap) l.length (t.flatMap enc) := by
 have hF : (flatK enc k t.toArray).size = l.length * k := by rw [size_flatK]; simp [hl]
 refine ⟨by rw [flatMap_len hk, hl], .inr ⟨g, cap, _, rfl, hbase, heap_sortedK _ hb, h1, h2, by simp [putCells, h3], ?_⟩⟩
 rw [← hF, take_putCellsK _ _ (by rw [hF, h3]; exact Nat.mul_le_mul_right _ h1), flatK_list hk]
end
end Go.Proofs.YtihhclhpjgeniaaGreatDoor
namespace Go.Proofs.YtihhclhpjgeniaaGreatDoor
open Go.RowKit Go.Sort
abbrev Ent := Int × Int × (Int × Int × Int) × ByteArray
def ecells (e : Ent) : List Value := [.int .i64 e.1, .int .i64 e.2.1, .int .i64 e.2.2.1.1, .int .i64 e.2.2.1.2.1, .int .i64 e.2.2.1.2.2, .string e.2.2.2]
abbrev eval_ (e : Ent) : Value := .agg #[.int .i64 e.1, .int .i64 e.2.1, .int .i64 e.2.2.1.1, .int .i64 e.2.2.1.2.1, .int .i64 e.2.2.1.2.2, .string e.2.2.2]
def ents (es : List Ent) : List Value := es.flatMap ecells
theorem ents_length (es : List Ent) : (ents es).length = es.length * 6 := by
 induction es with
 | nil => rfl
 | cons e l ih =>
  show (ecells e ++ ents l).length = _
  rw [List.length_append, ih]; simp [ecells]; omega
theorem ents_append (a b : List Ent) : ents (a ++ b) = ents a ++ ents b := by simp [ents]
theorem ents_one (es : List Ent) : ∀ u ∈ ents es, u.oneCell' = true := by
 intro u hu
 simp only [ents, List.mem_flatMap, ecells, List.mem_cons, List.not_mem_nil, or_false] at hu
 obtain ⟨e, _, rfl | rfl | rfl | rfl | rfl | rfl⟩ := hu <;> rfl
theorem ents_get {es : List Ent} {k i : Nat} (h : k < es.length) (hi : i < 6) : (ents es)[k * 6 + i]? = (ecells es[k])[i]? := by
 induction es generalizing k with
 | nil => simp at h
 | cons e l ih =>
  have hl : (ecells e).length = 6 := rfl
  show (ecells e ++ ents l)[k * 6 + i]? = _
  cases k with
  | zero => rw [List.getElem?_append_left (by omega)]; simp
  | succ k =>
   have := ih (k := k) (by simpa using h)
   rw [List.getElem?_append_right (by omega), hl, show (k + 1) * 6 + i - 6 = k * 6 + i by omega]
   simpa using this
theorem eat {w : World} {B : Nat} {A : Option Addr} {m : Nat} {es : List Ent} (h : Reads w B 6 A m (ents es)) {k : Nat} (hk : k < es.length) :
  ∃ ad e, A = some ad ∧ ad.block < B ∧ es[k]? = some e ∧ w.cell? (ad.add (k * 6)) = some (.int .i64 e.1) ∧
  w.cell? ⟨(ad.add (k * 6)).block, (ad.add (k * 6)).off + 1, none⟩ = some (.int .i64 e.2.1) ∧ w.cell? ⟨(ad.add (k * 6)).block, (ad.add (k * 6)).off + 2, none⟩ = some (.int .i64 e.2.2.1.1) ∧
  w.cell? ⟨(ad.add (k * 6)).block, (ad.add (k * 6)).off + 3, none⟩ = some (.int .i64 e.2.2.1.2.1) ∧ w.cell? ⟨(ad.add (k * 6)).block, (ad.add (k * 6)).off + 4, none⟩ = some (.int .i64 e.2.2.1.2.2) ∧
  w.cell? ⟨(ad.add (k * 6)).block, (ad.add (k * 6)).off + 5, none⟩ = some (.string e.2.2.2) := by
 have hl := h.1
 rw [ents_length] at hl
 obtain ⟨ad, e, hb, hc⟩ := h.2 (by omega)
 have g : ∀ i, i < 6 → w.cell? ((ad.add (k * 6)).add i) = (ecells es[k])[i]? := fun i hi => by
  rw [add_of_add]
  have g0 := ents_get hk hi
  cases hx : (ecells es[k])[i]? with
  | none => rw [List.getElem?_eq_none_iff] at hx; simp [ecells] at hx; omega
  | some u => exact hc _ u (g0.trans hx)
 refine ⟨ad, es[k], e, hb, List.getElem?_eq_getElem hk, ?_, ?_, ?_, ?_, ?_, ?_⟩
 ·have := g 0 (by omega)
  simpa [ecells, add_of_add] using this
 all_goals
  first
  | (have := g 1 (by omega); rw [add_pos _ 1 (by omega)] at this; simpa [ecells] using this)
  | (have := g 2 (by omega); rw [add_pos _ 2 (by omega)] at this; simpa [ecells] using this)
  | (have := g 3 (by omega); rw [add_pos _ 3 (by omega)] at this; simpa [ecells] using this)
  | (have := g 4 (by omega); rw [add_pos _ 4 (by omega)] at this; simpa [ecells] using this)
  | (have := g 5 (by omega); rw [add_pos _ 5 (by omega)] at this; simpa [ecells] using this)
theorem ix22 {A : Option Addr} {ad : Addr} {n c k : Nat} (h : A = some ad) (hk : k < n) (w : World) : (Instr.indexAt 44 (.slice A n c) (.int .i64 (k : Int))).run Tryz.prog w = .ok (.pointer (some (ad.add (k * 6)))) w := by
 subst h
 have h0 : (0 : Int) ≤ (k : Int) ∧ (k : Int) < (n : Int) := by omega
 have hs : (sizeOf (Tryz.prog.elem 44)).run Tryz.prog w = .ok 6 w := by kernel_rfl
 rw [run_indexAt_slice w 44 ad n c .i64 k (by kernel_rfl), if_pos h0, hs]
 simp [Result.andThen]
end Go.Proofs.YtihhclhpjgeniaaGreatDoor
namespace Go.Proofs.YtihhclhpjgeniaaGreatDoor
open Go.RowKit Go.Sort
def Ent.sn (e : Ent) (p : Int) : Int := if p = 0 then e.2.2.1.1 else if p = 1 then e.2.2.1.2.1 else e.2.2.1.2.2
def sawE (e f : Ent) : Bool := decide (f.2.1 ≤ e.sn f.1)
theorem ix35 (b i k : Nat) (h : k < 3) (w : World) : (Instr.indexAt 45 (.pointer (some ⟨b, i, none⟩)) (.int .i64 (k : Int))).run Tryz.prog w = .ok (.pointer (some ⟨b, i + k, none⟩)) w := by
 have hl : (Tryz.prog.arrayLen 45 : Int) = 3 := by kernel_rfl
 have hs : (sizeOf (Tryz.prog.elem 45)).run Tryz.prog w = .ok 1 w := by kernel_rfl
 rw [run_indexAt_array w 45 ⟨b, i, none⟩ .i64 k (by kernel_rfl), hl, if_pos (by omega), hs]
 simp only [Result.andThen, Addr.add]
 split
 ·rename_i h0; simp at h0; simp [h0]
 ·simp
theorem saw_any (e f : Ent) (w : World) (h0 : 0 ≤ f.1) (h1 : f.1 ≤ 2) :
  Calls Tryz.prog 198 #[eval_ e, eval_ f] w fun r w' => r = .returned (.bool (sawE e f)) ∧ Below w.heap.size w w' := by
 obtain ⟨k, hk⟩ := Int.eq_ofNat_of_zero_le h0
 obtain ⟨p, q, ⟨a, b, c⟩, t⟩ := e
 obtain ⟨p', q', ⟨a', b', c'⟩, t'⟩ := f
 dsimp only at hk h0 h1
 subst hk
 go_enter Tryz.func198, Tryz.ntmps198
 dsimp only [eval_]
 go_wp2_with fail
 refine wp_gen (fun w1 => Box w1 w.heap.size #[.int .i64 p, .int .i64 q, .int .i64 a, .int .i64 b, .int .i64 c, .string t] ∧ Box w1 (w.heap.size + 1) #[.int .i64 (k : Int), .int .i64 q', .int .i64 a', .int .i64 b', .int .i64 c', .string t'] ∧ Below w.heap.size w w1) ⟨(Box.new _ _ _).alloc _, Box.new2 _ _ _ _ _, belowAA _ _ _⟩ ?_
 rintro w1 ⟨b0, b1, hw1⟩
 have c0 := b0.at
 have c1 := b1.at
 have Y := fun w' => ix35 w.heap.size 2 k (by omega) w'
 rcases (show k = 0 ∨ k = 1 ∨ k = 2 by omega) with rfl | rfl | rfl
 all_goals
  go_quiet (fail)
  go_wp2_with fail
  go_ret
  exact ⟨ret_bool (by simp [sawE, Ent.sn]), below_drewN' hw1 _⟩
end Go.Proofs.YtihhclhpjgeniaaGreatDoor
namespace Go.Proofs.YtihhclhpjgeniaaGreatDoor
open Go.RowKit Go.Sort
def clk (es : List Ent) (p : Int) : Nat := (es.filter fun e => decide (e.1 = p)).length
abbrev clkV (es : List Ent) : Value := .agg #[.int .i64 (clk es 0 : Nat), .int .i64 (clk es 1 : Nat), .int .i64 (clk es 2 : Nat)]
theorem clk_snoc (es : List Ent) (e : Ent) (p : Int) : clk (es ++ [e]) p = clk es p + if e.1 = p then 1 else 0 := by
 unfold clk
 rw [List.filter_append, List.length_append]
 by_cases h : e.1 = p <;> simp [h]
theorem clk_le (es : List Ent) (p : Int) : clk es p ≤ es.length := List.length_filter_le _ _
set_option maxRecDepth 10000 in
set_option maxHeartbeats 1000000 in
theorem clock_any (A : Option Addr) (n c : Nat) (es : List Ent) (w : World) (hl : Reads w w.heap.size 6 A n (ents es)) (hn : n ≤ 1000000) (hp : ∀ e ∈ es, 0 ≤ e.1 ∧ e.1 ≤ 2) :
  Calls Tryz.prog 197 #[.slice A n c] w fun r w' => r = .returned (clkV es) ∧ Below w.heap.size w w' := by
 have hlen := hl.1
 rw [ents_length] at hlen
 have l1 : n ≤ es.length := by omega
 have l2 : es.length ≤ n := by omega
 have HL := Lib.hid hl
 have HP := Lib.hid hp
 clear hl hlen hp
 go_enter Tryz.func197, Tryz.ntmps197
 go_wp2_with fail
 refine gen_at (fun w1 => Box w1 w.heap.size #[.int .i64 0, .int .i64 0, .int .i64 0] ∧ Box w1 (w.heap.size + 1) #[.int .i64 0, .int .i64 0, .int .i64 0] ∧ (∀ i, w1.frozen? ⟨w.heap.size, i, none⟩ = false) ∧ (∀ i, w1.frozen? ⟨w.heap.size + 1, i, none⟩ = false) ∧ Below w.heap.size w w1) ⟨(Box.new _ _ _).alloc _, Box.new2 _ _ _ _ _, fz_below (Box.new w _ 45).1 (fz_new _ _ _) (belowA _ _), by have := fz_new (w.alloc (.cells #[.int .i64 0, .int .i64 0, .int .i64 0] 45)) #[.int .i64 0, .int .i64 0, .int .i64 0] 45; rw [World.size_alloc] at this; exact this, belowAA _ _ _⟩ ?_
 rintro w1 ⟨b0, b1, f0, f1, hw1⟩
 have HW1 := Lib.hid hw1
 clear hw1
 go_loopw [8] (fun i wr => ∃ k : Nat, k ≤ n ∧ i = .int .i64 k ∧ Box wr w.heap.size #[.int .i64 0, .int .i64 0, .int .i64 0] ∧ Box wr (w.heap.size + 1) #[.int .i64 (clk (es.take k) 0 : Nat), .int .i64 (clk (es.take k) 1 : Nat), .int .i64 (clk (es.take k) 2 : Nat)] ∧ (∀ i, wr.frozen? ⟨w.heap.size, i, none⟩ = false) ∧ (∀ i, wr.frozen? ⟨w.heap.size + 1, i, none⟩ = false) ∧ Below w.heap.size w wr) (fun i _ => n - (intOf i).toNat)
 case atStart => exact ⟨0, by omega, rfl, b0, by simpa [clk] using b1, f0, f1, HW1.out⟩
 case round =>
  clear b0 b1 f0 f1
  obtain ⟨k, hk, rfl, b0, b1, f0, f1, hbw⟩ := hrel
  have HB := Lib.hid hbw
  have HF0 := Lib.hid f0
  have HF1 := Lib.hid f1
  by_cases hlt : k < n
  ·obtain ⟨ad, e, e1, hbk, he, d0, d1, d2, d3, d4, d5⟩ := eat (HL.out.below hbw) (k := k) (by omega)
   have X := fun w => ix22 (c := c) e1 hlt w
   have HT := Lib.hid (take_succ_of he)
   obtain ⟨p0, p1⟩ := HP.out e (List.mem_of_getElem? he)
   have k0 := clk_le (es.take k) 0
   have k1 := clk_le (es.take k) 1
   have k2 := clk_le (es.take k) 2
   have kl := List.length_take_le k es
   obtain ⟨p, q, ⟨a, b, c'⟩, tx⟩ := e
   dsimp only at p0 p1 d0 d1 d2 d3 d4 d5
   obtain ⟨m, rfl⟩ := Int.eq_ofNat_of_zero_le p0
   clear hbw he e1 f0 f1
   have hsz : w.heap.size + 1 < wr.heap.size := b1.1
   rcases (show m = 0 ∨ m = 1 ∨ m = 2 by omega) with rfl | rfl | rfl
   ·have Y := fun w' => ix35 (w.heap.size + 1) 0 0 (by omega) w'
    have c1 := (b1.alloc (.cells #[.int .i64 0, .int .i64 q, .int .i64 a, .int .i64 b, .int .i64 c', .string tx] 47)).at
    have z1 := (fz_below b1.1 HF1.out (belowA wr (.cells #[.int .i64 0, .int .i64 q, .int .i64 a, .int .i64 b, .int .i64 c', .string tx] 47)))
    have c1w := b1.at
    have hB1 : Box (wr.setCell ⟨w.heap.size + 1, 0, none⟩ (.int .i64 ((clk (es.take k) 0 : Nat) + 1))) (w.heap.size + 1) #[.int .i64 (clk (es.take (k + 1)) 0 : Nat), .int .i64 (clk (es.take (k + 1)) 1 : Nat), .int .i64 (clk (es.take (k + 1)) 2 : Nat)] := by
     have h := b1.set (i := 0) (by simp) (.int .i64 ((clk (es.take k) 0 : Nat) + 1))
     rw [HT.out, clk_snoc, clk_snoc, clk_snoc]
     simpa using h
    have hB0 := b0.far (p := ⟨w.heap.size + 1, 0, none⟩) (by show w.heap.size ≠ w.heap.size + 1; omega) (.int .i64 ((clk (es.take k) 0 : Nat) + 1))
    have hBB := HB.out.setCell (p := ⟨w.heap.size + 1, 0, none⟩) (Nat.le_succ _) (.int .i64 ((clk (es.take k) 0 : Nat) + 1))
    have g0 : ∀ i, (wr.setCell ⟨w.heap.size + 1, 0, none⟩ (.int .i64 ((clk (es.take k) 0 : Nat) + 1))).frozen? ⟨w.heap.size, i, none⟩ = false := fun i => by rw [World.frozen?_setCell]; exact HF0.out i
    have g1 : ∀ i, (wr.setCell ⟨w.heap.size + 1, 0, none⟩ (.int .i64 ((clk (es.take k) 0 : Nat) + 1))).frozen? ⟨w.heap.size + 1, i, none⟩ = false := fun i => by rw [World.frozen?_setCell]; exact HF1.out i
    have HB1 := Lib.hid (hB1.alloc (.cells #[.int .i64 0, .int .i64 q, .int .i64 a, .int .i64 b, .int .i64 c', .string tx] 47))
    have HB0 := Lib.hid (hB0.alloc (.cells #[.int .i64 0, .int .i64 q, .int .i64 a, .int .i64 b, .int .i64 c', .string tx] 47))
    have HBB := Lib.hid (hBB.alloc (by simp; omega) (.cells #[.int .i64 0, .int .i64 q, .int .i64 a, .int .i64 b, .int .i64 c', .string tx] 47))
    have G0 := Lib.hid (fz_below hB0.1 g0 (belowA _ (.cells #[.int .i64 0, .int .i64 q, .int .i64 a, .int .i64 b, .int .i64 c', .string tx] 47)))
    have G1 := Lib.hid (fz_below hB1.1 g1 (belowA _ (.cells #[.int .i64 0, .int .i64 q, .int .i64 a, .int .i64 b, .int .i64 c', .string tx] 47)))
    clear hB1 hB0 hBB g0 g1
    generalize clk (es.take k) 0 = n0 at k0 c1 HB1 HB0 HBB G0 G1 c1w b1
    generalize clk (es.take k) 1 = n1 at k1 c1 HB1 HB0 HBB G0 G1 c1w b1
    generalize clk (es.take k) 2 = n2 at k2 c1 HB1 HB0 HBB G0 G1 c1w b1
    clear b0 b1
    go_wp2_with fail
    go_roundw
    case rel => exact ⟨k + 1, by omega, by go_num, HB0.out, HB1.out, G0.out, G1.out, HBB.out⟩
    case measure => simp [intOf]; omega
   ·have Y := fun w' => ix35 (w.heap.size + 1) 0 1 (by omega) w'
    have c1 := (b1.alloc (.cells #[.int .i64 1, .int .i64 q, .int .i64 a, .int .i64 b, .int .i64 c', .string tx] 47)).at
    have z1 := (fz_below b1.1 HF1.out (belowA wr (.cells #[.int .i64 1, .int .i64 q, .int .i64 a, .int .i64 b, .int .i64 c', .string tx] 47)))
    have c1w := b1.at
    have hB1 : Box (wr.setCell ⟨w.heap.size + 1, 1, none⟩ (.int .i64 ((clk (es.take k) 1 : Nat) + 1))) (w.heap.size + 1) #[.int .i64 (clk (es.take (k + 1)) 0 : Nat), .int .i64 (clk (es.take (k + 1)) 1 : Nat), .int .i64 (clk (es.take (k + 1)) 2 : Nat)] := by
     have h := b1.set (i := 1) (by simp) (.int .i64 ((clk (es.take k) 1 : Nat) + 1))
     rw [HT.out, clk_snoc, clk_snoc, clk_snoc]
     simpa using h
    have hB0 := b0.far (p := ⟨w.heap.size + 1, 1, none⟩) (by show w.heap.size ≠ w.heap.size + 1; omega) (.int .i64 ((clk (es.take k) 1 : Nat) + 1))
    have hBB := HB.out.setCell (p := ⟨w.heap.size + 1, 1, none⟩) (Nat.le_succ _) (.int .i64 ((clk (es.take k) 1 : Nat) + 1))
    have g0 : ∀ i, (wr.setCell ⟨w.heap.size + 1, 1, none⟩ (.int .i64 ((clk (es.take k) 1 : Nat) + 1))).frozen? ⟨w.heap.size, i, none⟩ = false := fun i => by rw [World.frozen?_setCell]; exact HF0.out i
    have g1 : ∀ i, (wr.setCell ⟨w.heap.size + 1, 1, none⟩ (.int .i64 ((clk (es.take k) 1 : Nat) + 1))).frozen? ⟨w.heap.size + 1, i, none⟩ = false := fun i => by rw [World.frozen?_setCell]; exact HF1.out i
    have HB1 := Lib.hid (hB1.alloc (.cells #[.int .i64 1, .int .i64 q, .int .i64 a, .int .i64 b, .int .i64 c', .string tx] 47))
    have HB0 := Lib.hid (hB0.alloc (.cells #[.int .i64 1, .int .i64 q, .int .i64 a, .int .i64 b, .int .i64 c', .string tx] 47))
    have HBB := Lib.hid (hBB.alloc (by simp; omega) (.cells #[.int .i64 1, .int .i64 q, .int .i64 a, .int .i64 b, .int .i64 c', .string tx] 47))
    have G0 := Lib.hid (fz_below hB0.1 g0 (belowA _ (.cells #[.int .i64 1, .int .i64 q, .int .i64 a, .int .i64 b, .int .i64 c', .string tx] 47)))
    have G1 := Lib.hid (fz_below hB1.1 g1 (belowA _ (.cells #[.int .i64 1, .int .i64 q, .int .i64 a, .int .i64 b, .int .i64 c', .string tx] 47)))
    clear hB1 hB0 hBB g0 g1
    generalize clk (es.take k) 0 = n0 at k0 c1 HB1 HB0 HBB G0 G1 c1w b1
    generalize clk (es.take k) 1 = n1 at k1 c1 HB1 HB0 HBB G0 G1 c1w b1
    generalize clk (es.take k) 2 = n2 at k2 c1 HB1 HB0 HBB G0 G1 c1w b1
    clear b0 b1
    go_wp2_with fail
    go_roundw
    case rel => exact ⟨k + 1, by omega, by go_num, HB0.out, HB1.out, G0.out, G1.out, HBB.out⟩
    case measure => simp [intOf]; omega
   ·have Y := fun w' => ix35 (w.heap.size + 1) 0 2 (by omega) w'
    have c1 := (b1.alloc (.cells #[.int .i64 2, .int .i64 q, .int .i64 a, .int .i64 b, .int .i64 c', .string tx] 47)).at
    have z1 := (fz_below b1.1 HF1.out (belowA wr (.cells #[.int .i64 2, .int .i64 q, .int .i64 a, .int .i64 b, .int .i64 c', .string tx] 47)))
    have c1w := b1.at
    have hB1 : Box (wr.setCell ⟨w.heap.size + 1, 2, none⟩ (.int .i64 ((clk (es.take k) 2 : Nat) + 1))) (w.heap.size + 1) #[.int .i64 (clk (es.take (k + 1)) 0 : Nat), .int .i64 (clk (es.take (k + 1)) 1 : Nat), .int .i64 (clk (es.take (k + 1)) 2 : Nat)] := by
     have h := b1.set (i := 2) (by simp) (.int .i64 ((clk (es.take k) 2 : Nat) + 1))
     rw [HT.out, clk_snoc, clk_snoc, clk_snoc]
     simpa using h
    have hB0 := b0.far (p := ⟨w.heap.size + 1, 2, none⟩) (by show w.heap.size ≠ w.heap.size + 1; omega) (.int .i64 ((clk (es.take k) 2 : Nat) + 1))
    have hBB := HB.out.setCell (p := ⟨w.heap.size + 1, 2, none⟩) (Nat.le_succ _) (.int .i64 ((clk (es.take k) 2 : Nat) + 1))
    have g0 : ∀ i, (wr.setCell ⟨w.heap.size + 1, 2, none⟩ (.int .i64 ((clk (es.take k) 2 : Nat) + 1))).frozen? ⟨w.heap.size, i, none⟩ = false := fun i => by rw [World.frozen?_setCell]; exact HF0.out i
    have g1 : ∀ i, (wr.setCell ⟨w.heap.size + 1, 2, none⟩ (.int .i64 ((clk (es.take k) 2 : Nat) + 1))).frozen? ⟨w.heap.size + 1, i, none⟩ = false := fun i => by rw [World.frozen?_setCell]; exact HF1.out i
    have HB1 := Lib.hid (hB1.alloc (.cells #[.int .i64 2, .int .i64 q, .int .i64 a, .int .i64 b, .int .i64 c', .string tx] 47))
    have HB0 := Lib.hid (hB0.alloc (.cells #[.int .i64 2, .int .i64 q, .int .i64 a, .int .i64 b, .int .i64 c', .string tx] 47))
    have HBB := Lib.hid (hBB.alloc (by simp; omega) (.cells #[.int .i64 2, .int .i64 q, .int .i64 a, .int .i64 b, .int .i64 c', .string tx] 47))
    have G0 := Lib.hid (fz_below hB0.1 g0 (belowA _ (.cells #[.int .i64 2, .int .i64 q, .int .i64 a, .int .i64 b, .int .i64 c', .string tx] 47)))
    have G1 := Lib.hid (fz_below hB1.1 g1 (belowA _ (.cells #[.int .i64 2, .int .i64 q, .int .i64 a, .int .i64 b, .int .i64 c', .string tx] 47)))
    clear hB1 hB0 hBB g0 g1
    generalize clk (es.take k) 0 = n0 at k0 c1 HB1 HB0 HBB G0 G1 c1w b1
    generalize clk (es.take k) 1 = n1 at k1 c1 HB1 HB0 HBB G0 G1 c1w b1
    generalize clk (es.take k) 2 = n2 at k2 c1 HB1 HB0 HBB G0 G1 c1w b1
    clear b0 b1
    go_wp2_with fail
    go_roundw
    case rel => exact ⟨k + 1, by omega, by go_num, HB0.out, HB1.out, G0.out, G1.out, HBB.out⟩
    case measure => simp [intOf]; omega
  ·have HT := Lib.hid (show es.take k = es from List.take_of_length_le (by omega))
   rw [HT.out] at b1
   have c1 := b1.at
   have c0 := b0.at
   have z0 := HF0.out
   have HBX := Lib.hid b0
   clear hbw
   go_wp2_with fail
   have b2 := ((HBX.out.set (i := 0) (by simp) (.int .i64 (clk es 0 : Nat))).set (i := 1) (by simp) (.int .i64 (clk es 1 : Nat))).set (i := 2) (by simp) (.int .i64 (clk es 2 : Nat))
   have cF := b2.at
   exact bodyPost_ret (v := clkV es) (by simp [results, Tryz.results197, go_sem, cF]) rfl ⟨rfl, ((HB.out.setCell (p := ⟨w.heap.size, 0, none⟩) (Nat.le_refl _) _).setCell (p := ⟨w.heap.size, 1, none⟩) (Nat.le_refl _) _).setCell (p := ⟨w.heap.size, 2, none⟩) (Nat.le_refl _) _⟩
end Go.Proofs.YtihhclhpjgeniaaGreatDoor
namespace Go.Proofs.YtihhclhpjgeniaaGreatDoor
open Go.RowKit Go.Sort
def bt (t : ByteArray) (i : Nat) : Int := if h : i < t.size then (t[i].toNat : Int) else 0
theorem bt_bd (t : ByteArray) (i : Nat) : 0 ≤ bt t i ∧ bt t i ≤ 255 := by
 unfold bt
 split
 ·have := UInt8.toNat_lt t[i]; omega
 ·omega
theorem bt_in {t : ByteArray} {i : Nat} (h : i < t.size) : bt t i = (t[i].toNat : Int) := by unfold bt; rw [dif_pos h]
def okB (t : ByteArray) (i : Nat) : Prop := 32 ≤ bt t i ∧ bt t i ≤ 126
instance (t : ByteArray) (i : Nat) : Decidable (okB t i) := by unfold okB; infer_instance
def edgeB (t : ByteArray) : Prop := 1 ≤ t.size ∧ t.size ≤ 60 ∧ bt t 0 ≠ 32 ∧ bt t (t.size - 1) ≠ 32
instance (t : ByteArray) : Decidable (edgeB t) := by unfold edgeB; infer_instance
def right (t : ByteArray) : Bool := decide (edgeB t ∧ ∀ i, i < t.size → okB t i)
theorem right_edge {t : ByteArray} (h : ¬ edgeB t) : right t = false := by unfold right; rw [decide_eq_false_iff_not]; exact fun h' => h h'.1
theorem right_at {t : ByteArray} {i : Nat} (hi : i < t.size) (h : ¬ okB t i) : right t = false := by unfold right; rw [decide_eq_false_iff_not]; exact fun h' => h (h'.2 i hi)
theorem right_all {t : ByteArray} (h : edgeB t) (h2 : ∀ i, i < t.size → okB t i) : right t = true := by unfold right; rw [decide_eq_true_eq]; exact ⟨h, h2⟩
end Go.Proofs.YtihhclhpjgeniaaGreatDoor
namespace Go.Proofs.YtihhclhpjgeniaaGreatDoor
open Go.RowKit Go.Sort
theorem wrongByte_any (b : Int) (w : World) :
  Calls Tryz.prog 253 #[.int .u8 b] w fun r w' => r = .returned (.bool (!decide (32 ≤ b ∧ b ≤ 126))) ∧ w' = w := by
 go_enter Tryz.func253, Tryz.ntmps253
 by_cases h1 : b < 32
 ·go_wp2_with fail
  go_ret
  exact ⟨ret_bool (by simp; omega), rfl⟩
 ·by_cases h2 : 126 < b
  ·go_wp2_with fail
   go_ret
   exact ⟨ret_bool (by simp; omega), rfl⟩
  ·go_wp2_with fail
   go_ret
   exact ⟨ret_bool (by first | (simp; done) | (simp; omega)), rfl⟩
theorem ix69 {ad : Addr} {n c k : Nat} (hk : k < n) (w : World) : (Instr.indexAt 190 (.slice (some ad) n c) (.int .i64 (k : Int))).run Tryz.prog w = .ok (.pointer (some (ad.add k))) w := by
 have h0 : (0 : Int) ≤ (k : Int) ∧ (k : Int) < (n : Int) := by omega
 have hs : (sizeOf (Tryz.prog.elem 190)).run Tryz.prog w = .ok 1 w := by kernel_rfl
 rw [run_indexAt_slice w 190 ad n c .i64 k (by kernel_rfl), if_pos h0, hs]
 simp [Result.andThen]
theorem wrongAt_any (ad : Addr) (c : Nat) (t : ByteArray) (w : World) (hc : ∀ k, k < t.size → w.cell? (ad.add k) = some (.int .u8 (bt t k))) (ht : t.size ≤ 1000000) :
  Calls Tryz.prog 285 #[.slice (some ad) t.size c, .func (.func 253) #[] #[]] w fun r w' => (∃ i : Int, r = .returned (.int .i64 i) ∧ (0 ≤ i ↔ ∃ k, k < t.size ∧ ¬ okB t k)) ∧ w' = w := by
 have HC := Lib.hid hc
 clear hc
 go_enter Tryz.func285, Tryz.ntmps285
 go_wp2_with fail
 go_loopw [8] (fun i wr => ∃ k : Nat, k ≤ t.size ∧ i = .int .i64 k ∧ (∀ j, j < k → okB t j) ∧ wr = w) (fun i _ => t.size - (intOf i).toNat)
 case atStart => exact ⟨0, by omega, rfl, fun j hj => by omega, rfl⟩
 case round =>
  obtain ⟨k, hk, rfl, hno, hwr⟩ := hrel
  have HN := Lib.hid hno
  clear hno
  subst hwr
  by_cases hlt : k < t.size
  ·have X := fun w => ix69 (ad := ad) (c := c) hlt w
   have c0 := HC.out k hlt
   go_wp2_with fail
   with_reducible refine (wrongByte_any (bt t k) _).mono ?_
   rintro _ _ ⟨rfl, rfl⟩
   by_cases hok : okB t k
   ·have g : (decide (32 ≤ bt t k ∧ bt t k ≤ 126)) = true := by rw [decide_eq_true_eq]; exact hok
    rw [g]
    have HO := Lib.hid hok
    clear hok g
    go_wp2_with fail
    go_roundw
    case rel =>
     refine ⟨k + 1, by omega, by go_num, fun j hj => ?_, by trivial⟩
     rcases Nat.lt_or_ge j k with h | h
     ·exact HN.out j h
     ·obtain rfl : j = k := by omega
      exact HO.out
    case measure => simp [intOf]; omega
   ·have g : (decide (32 ≤ bt t k ∧ bt t k ≤ 126)) = false := by rw [decide_eq_false_iff_not]; exact hok
    rw [g]
    have HO := Lib.hid hok
    clear hok g
    go_wp2_with fail
    go_ret
    exact ⟨⟨k, rfl, ⟨fun _ => ⟨k, hlt, HO.out⟩, fun _ => by omega⟩⟩, rfl⟩
  ·go_wp2_with fail
   go_ret
   exact ⟨⟨-1, rfl, ⟨fun h => by omega, fun ⟨j, h1, h2⟩ => absurd (HN.out j (by omega)) h2⟩⟩, rfl⟩
theorem wrongIn_any (ad : Addr) (c : Nat) (t : ByteArray) (w : World) (hc : ∀ k, k < t.size → w.cell? (ad.add k) = some (.int .u8 (bt t k))) (ht : t.size ≤ 1000000) :
  Calls Tryz.prog 252 #[.slice (some ad) t.size c, .func (.func 253) #[] #[]] w fun r w' => r = .returned (.bool (decide (∃ k, k < t.size ∧ ¬ okB t k))) ∧ w' = w := by
 have HC := Lib.hid hc
 clear hc
 go_enter Tryz.func252, Tryz.ntmps252
 go_wp2_with fail
 with_reducible refine (wrongAt_any ad c t w HC.out ht).mono ?_
 rintro _ _ ⟨⟨i, rfl, hi⟩, rfl⟩
 have HI := Lib.hid hi
 clear hi
 go_wp2_with fail
 go_ret
 refine ⟨ret_bool ?_, rfl⟩
 rw [decide_eq_decide]
 exact HI.out
theorem bytes_at (t : ByteArray) (cap k : Nat) (hk : k < t.size) : (bytesRow t cap)[k]? = some (.int .u8 (bt t k)) := by
 rw [bytesRow_at t cap k hk, bt_in hk]
 rfl
set_option maxRecDepth 4000 in
theorem rightText_any (t : ByteArray) (w : World) (ht : t.size ≤ 1000000) :
  Calls Tryz.prog 196 #[.string t] w fun r w' => r = .returned (.bool (right t)) ∧ Below w.heap.size w w' := by
 go_enter Tryz.func196, Tryz.ntmps196
 by_cases he : edgeB t
 case neg =>
  have HF := Lib.hid (right_edge he)
  have hc : t.size < 1 ∨ (1 ≤ t.size ∧ (60 < t.size ∨ (t.size ≤ 60 ∧ (bt t 0 = 32 ∨ (bt t 0 ≠ 32 ∧ bt t (t.size - 1) = 32))))) := by
   unfold edgeB at he
   omega
  clear he
  rcases hc with h1 | ⟨h1, h2 | ⟨h2, h3 | ⟨h3, h4⟩⟩⟩
  ·go_wp2_with fail
   go_ret
   exact ⟨ret_bool HF.out.symm, Below.refl _ _⟩
  ·go_wp2_with fail
   go_ret
   exact ⟨ret_bool HF.out.symm, Below.refl _ _⟩
  ·have g : ((t[0].toNat : Int) == 32) = true := by rw [beq_iff_eq]; exact (bt_in (by omega)).symm.trans h3
   clear h3
   go_wp2_with fail
   go_ret
   exact ⟨ret_bool HF.out.symm, Below.refl _ _⟩
  ·have g : ((t[0].toNat : Int) == 32) = false := by rw [beq_eq_false_iff_ne, ← bt_in (by omega)]; exact h3
   have g2 : ((t[t.size - 1].toNat : Int) == 32) = true := by rw [beq_iff_eq]; exact (bt_in (by omega)).symm.trans h4
   clear h3 h4
   go_wp2_with fail
   go_ret
   exact ⟨ret_bool HF.out.symm, Below.refl _ _⟩
 have HE := Lib.hid he
 obtain ⟨h1, h2, h3, h4⟩ := he
 have g3 : ((t[0].toNat : Int) == 32) = false := by rw [beq_eq_false_iff_ne, ← bt_in (by omega)]; exact h3
 have g4 : ((t[t.size - 1].toNat : Int) == 32) = false := by rw [beq_eq_false_iff_ne, ← bt_in (by omega)]; exact h4
 clear h3 h4
 have C := run_bytes_of_string (P := Tryz.prog) w 9 190 5 t (by kernel_rfl) (by kernel_rfl) (by kernel_rfl)
 go_wp2_with fail
 with_reducible refine (wrongIn_any ⟨w.heap.size, 0, none⟩ _ t _ (fun k hk => ?_) ht).mono ?_
 ·have e1 : (⟨w.heap.size, 0, none⟩ : Addr).add k = ⟨w.heap.size, k, none⟩ := by
   unfold Addr.add
   split
   ·rename_i h0; rw [h0]
   ·simp
  rw [e1]
  exact (cell_of_row _ _ k _ 5 _ (heap_alloc_new w _)).trans (bytes_at t _ k hk)
 rintro _ _ ⟨rfl, rfl⟩
 go_wp2_with fail
 go_ret
 refine ⟨ret_bool ?_, below_drewN' (below_alloc w _) 1⟩
 by_cases hall : ∀ k, k < t.size → okB t k
 ·rw [right_all HE.out hall, decide_eq_false (fun ⟨k, hk, hn⟩ => hn (hall k hk))]; rfl
 ·have : ∃ k, k < t.size ∧ ¬ okB t k := by
   refine Classical.byContradiction fun hn => hall fun k hk => Classical.byContradiction fun h => hn ⟨k, hk, h⟩
  obtain ⟨k, hk, hn⟩ := this
  rw [right_at hk hn, decide_eq_true ⟨k, hk, hn⟩]; rfl
end Go.Proofs.YtihhclhpjgeniaaGreatDoor
