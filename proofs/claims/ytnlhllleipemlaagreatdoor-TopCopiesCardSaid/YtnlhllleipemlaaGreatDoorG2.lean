/- Merged texts: Ce C1 C2 C3 C4 Cv Cm D1 C5 -/
import Derived.Test.YtnlhllleipemlaaGreatDoorG1
import Derived.Laws.IdiomStrings
namespace Go.Proofs.YtnlhllleipemlaaGreatDoor
open Go.RowKit Go.Sort

/-- An entry: place, number, what it has seen, text. -/
abbrev Ent := Int × Int × (Int × Int × Int) × ByteArray
def Ent.pl (e : Ent) : Int := e.1
def Ent.sq (e : Ent) : Int := e.2.1
def Ent.tx (e : Ent) : ByteArray := e.2.2.2
def ecells (e : Ent) : List Value := [.int .i64 e.1, .int .i64 e.2.1, .int .i64 e.2.2.1.1, .int .i64 e.2.2.1.2.1, .int .i64 e.2.2.1.2.2, .string e.2.2.2]
abbrev eval_ (e : Ent) : Value := .agg #[.int .i64 e.1, .int .i64 e.2.1, .int .i64 e.2.2.1.1, .int .i64 e.2.2.1.2.1, .int .i64 e.2.2.1.2.2, .string e.2.2.2]
def ents (es : List Ent) : List Value := es.flatMap ecells
theorem ents_length (es : List Ent) : (ents es).length = es.length * 6 := by
  induction es with
  | nil => rfl
  | cons e l ih =>
    show (ecells e ++ ents l).length = _
    rw [List.length_append, ih]; simp [ecells]; omega
theorem ents_append (a b : List Ent) : ents (a ++ b) = ents a ++ ents b := by simp [ents]
theorem ents_one (es : List Ent) : ∀ u ∈ ents es, u.oneCell' = true := by
  intro u hu
  simp only [ents, List.mem_flatMap, ecells, List.mem_cons, List.not_mem_nil, or_false] at hu
  obtain ⟨e, _, rfl | rfl | rfl | rfl | rfl | rfl⟩ := hu <;> rfl
theorem ents_get {es : List Ent} {k i : Nat} (h : k < es.length) (hi : i < 6) : (ents es)[k * 6 + i]? = (ecells es[k])[i]? := by
  induction es generalizing k with
  | nil => simp at h
  | cons e l ih =>
    have hl : (ecells e).length = 6 := rfl
    show (ecells e ++ ents l)[k * 6 + i]? = _
    cases k with
    | zero => rw [List.getElem?_append_left (by omega)]; simp
    | succ k =>
      have := ih (k := k) (by simpa using h)
      rw [List.getElem?_append_right (by omega), hl, show (k + 1) * 6 + i - 6 = k * 6 + i by omega]
      simpa using this
/-- The cells of an element. -/
theorem eat {w : World} {B : Nat} {A : Option Addr} {m : Nat} {es : List Ent} (h : Reads w B 6 A m (ents es)) {k : Nat} (hk : k < es.length) :
    ∃ ad e, A = some ad ∧ ad.block < B ∧ es[k]? = some e ∧ w.cell? (ad.add (k * 6)) = some (.int .i64 e.1) ∧
    w.cell? ⟨(ad.add (k * 6)).block, (ad.add (k * 6)).off + 1, none⟩ = some (.int .i64 e.2.1) ∧ w.cell? ⟨(ad.add (k * 6)).block, (ad.add (k * 6)).off + 2, none⟩ = some (.int .i64 e.2.2.1.1) ∧
    w.cell? ⟨(ad.add (k * 6)).block, (ad.add (k * 6)).off + 3, none⟩ = some (.int .i64 e.2.2.1.2.1) ∧ w.cell? ⟨(ad.add (k * 6)).block, (ad.add (k * 6)).off + 4, none⟩ = some (.int .i64 e.2.2.1.2.2) ∧
    w.cell? ⟨(ad.add (k * 6)).block, (ad.add (k * 6)).off + 5, none⟩ = some (.string e.2.2.2) := by
  have hl := h.1
  rw [ents_length] at hl
  obtain ⟨ad, e, hb, hc⟩ := h.2 (by omega)
  have g : ∀ i, i < 6 → w.cell? ((ad.add (k * 6)).add i) = (ecells es[k])[i]? := fun i hi => by
    rw [add_of_add]
    have g0 := ents_get hk hi
    cases hx : (ecells es[k])[i]? with
    | none => rw [List.getElem?_eq_none_iff] at hx; simp [ecells] at hx; omega
    | some u => exact hc _ u (g0.trans hx)
  refine ⟨ad, es[k], e, hb, List.getElem?_eq_getElem hk, ?_, ?_, ?_, ?_, ?_, ?_⟩
  · have := g 0 (by omega)
    simpa [ecells, add_of_add] using this
  all_goals
    first
    | (have := g 1 (by omega); rw [add_pos _ 1 (by omega)] at this; simpa [ecells] using this)
    | (have := g 2 (by omega); rw [add_pos _ 2 (by omega)] at this; simpa [ecells] using this)
    | (have := g 3 (by omega); rw [add_pos _ 3 (by omega)] at this; simpa [ecells] using this)
    | (have := g 4 (by omega); rw [add_pos _ 4 (by omega)] at this; simpa [ecells] using this)
    | (have := g 5 (by omega); rw [add_pos _ 5 (by omega)] at this; simpa [ecells] using this)
theorem info53 : (Tryz.prog.info? 48).map (fun i => (i.zero, i.size)) = some (some (.agg #[.int .i64 0, .int .i64 0, .int .i64 0, .int .i64 0, .int .i64 0, .string ⟨#[]⟩]), 6) := by kernel_rfl
theorem ix22 {A : Option Addr} {ad : Addr} {n c k : Nat} (h : A = some ad) (hk : k < n) (w : World) : (Instr.indexAt 23 (.slice A n c) (.int .i64 (k : Int))).run Tryz.prog w = .ok (.pointer (some (ad.add (k * 6)))) w := by
  subst h
  have h0 : (0 : Int) ≤ (k : Int) ∧ (k : Int) < (n : Int) := by omega
  have hs : (sizeOf (Tryz.prog.elem 23)).run Tryz.prog w = .ok 6 w := by kernel_rfl
  rw [run_indexAt_slice w 23 ad n c .i64 k (by kernel_rfl), if_pos h0, hs]
  simp [Result.andThen]
end Go.Proofs.YtnlhllleipemlaaGreatDoor

namespace Go.Proofs.YtnlhllleipemlaaGreatDoor
open Go.RowKit Go.Sort

/-- What an entry has seen of a place. -/
def Ent.sn (e : Ent) (p : Int) : Int := if p = 0 then e.2.2.1.1 else if p = 1 then e.2.2.1.2.1 else e.2.2.1.2.2
def sawE (e f : Ent) : Bool := decide (f.2.1 ≤ e.sn f.1)
theorem ix35 (b i k : Nat) (h : k < 3) (w : World) : (Instr.indexAt 46 (.pointer (some ⟨b, i, none⟩)) (.int .i64 (k : Int))).run Tryz.prog w = .ok (.pointer (some ⟨b, i + k, none⟩)) w := by
  have hl : (Tryz.prog.arrayLen 46 : Int) = 3 := by kernel_rfl
  have hs : (sizeOf (Tryz.prog.elem 46)).run Tryz.prog w = .ok 1 w := by kernel_rfl
  rw [run_indexAt_array w 46 ⟨b, i, none⟩ .i64 k (by kernel_rfl), hl, if_pos (by omega), hs]
  simp only [Result.andThen, Addr.add]
  split
  · rename_i h0; simp at h0; simp [h0]
  · simp
theorem saw_any (e f : Ent) (w : World) (h0 : 0 ≤ f.1) (h1 : f.1 ≤ 2) :
    Calls Tryz.prog 36 #[eval_ e, eval_ f] w fun r w' => r = .returned (.bool (sawE e f)) ∧ Below w.heap.size w w' := by
  obtain ⟨k, hk⟩ := Int.eq_ofNat_of_zero_le h0
  obtain ⟨p, q, ⟨a, b, c⟩, t⟩ := e
  obtain ⟨p', q', ⟨a', b', c'⟩, t'⟩ := f
  dsimp only at hk h0 h1
  subst hk
  go_enter Tryz.func36, Tryz.ntmps36
  dsimp only [eval_]
  go_wp2_with fail
  refine wp_gen (fun w1 => Box w1 w.heap.size #[.int .i64 p, .int .i64 q, .int .i64 a, .int .i64 b, .int .i64 c, .string t] ∧ Box w1 (w.heap.size + 1) #[.int .i64 (k : Int), .int .i64 q', .int .i64 a', .int .i64 b', .int .i64 c', .string t'] ∧ Below w.heap.size w w1) ⟨(Box.new _ _ _).alloc _, Box.new2 _ _ _ _ _, belowAA _ _ _⟩ ?_
  rintro w1 ⟨b0, b1, hw1⟩
  have c0 := b0.at
  have c1 := b1.at
  have Y := fun w' => ix35 w.heap.size 2 k (by omega) w'
  rcases (show k = 0 ∨ k = 1 ∨ k = 2 by omega) with rfl | rfl | rfl
  all_goals
    go_quiet (fail)
    go_wp2_with fail
    go_ret
    exact ⟨ret_bool (by simp [sawE, Ent.sn]), below_drewN' hw1 _⟩
end Go.Proofs.YtnlhllleipemlaaGreatDoor

namespace Go.Proofs.YtnlhllleipemlaaGreatDoor
open Go.RowKit Go.Sort

theorem seen_any (e f : Ent) (w : World) (h0 : 0 ≤ f.1) (h1 : f.1 ≤ 2) :
    Calls Tryz.prog 87 #[eval_ e, eval_ f] w fun r w' => r = .returned (.bool (sawE e f)) ∧ Below w.heap.size w w' := by
  obtain ⟨k, hk⟩ := Int.eq_ofNat_of_zero_le h0
  obtain ⟨p, q, ⟨a, b, c⟩, t⟩ := e
  obtain ⟨p', q', ⟨a', b', c'⟩, t'⟩ := f
  dsimp only at hk h0 h1
  subst hk
  go_enter Tryz.func87, Tryz.ntmps87
  dsimp only [eval_]
  go_wp2_with fail
  refine wp_gen (fun w1 => Box w1 w.heap.size #[.int .i64 p, .int .i64 q, .int .i64 a, .int .i64 b, .int .i64 c, .string t] ∧ Box w1 (w.heap.size + 1) #[.int .i64 (k : Int), .int .i64 q', .int .i64 a', .int .i64 b', .int .i64 c', .string t'] ∧ Below w.heap.size w w1) ⟨(Box.new _ _ _).alloc _, Box.new2 _ _ _ _ _, belowAA _ _ _⟩ ?_
  rintro w1 ⟨b0, b1, hw1⟩
  have c0 := b0.at
  have c1 := b1.at
  have Y := fun w' => ix35 w.heap.size 2 k (by omega) w'
  rcases (show k = 0 ∨ k = 1 ∨ k = 2 by omega) with rfl | rfl | rfl
  all_goals
    go_quiet (fail)
    go_wp2_with fail
    go_ret
    exact ⟨ret_bool (by simp [sawE, Ent.sn]), below_drewN' hw1 _⟩

/-- How many entries of a place a list has. -/
def clk (es : List Ent) (p : Int) : Nat := (es.filter fun e => decide (e.1 = p)).length
abbrev clkV (es : List Ent) : Value := .agg #[.int .i64 (clk es 0 : Nat), .int .i64 (clk es 1 : Nat), .int .i64 (clk es 2 : Nat)]
theorem clk_snoc (es : List Ent) (e : Ent) (p : Int) : clk (es ++ [e]) p = clk es p + if e.1 = p then 1 else 0 := by
  unfold clk
  rw [List.filter_append, List.length_append]
  by_cases h : e.1 = p <;> simp [h]
theorem clk_le (es : List Ent) (p : Int) : clk es p ≤ es.length := List.length_filter_le _ _
set_option maxRecDepth 10000 in
set_option maxHeartbeats 1000000 in
theorem clock_any (A : Option Addr) (n c : Nat) (es : List Ent) (w : World) (hl : Reads w w.heap.size 6 A n (ents es)) (hn : n ≤ 1000000) (hp : ∀ e ∈ es, 0 ≤ e.1 ∧ e.1 ≤ 2) :
    Calls Tryz.prog 35 #[.slice A n c] w fun r w' => r = .returned (clkV es) ∧ Below w.heap.size w w' := by
  have hlen := hl.1
  rw [ents_length] at hlen
  have l1 : n ≤ es.length := by omega
  have l2 : es.length ≤ n := by omega
  have HL := Lib.hid hl
  have HP := Lib.hid hp
  clear hl hlen hp
  go_enter Tryz.func35, Tryz.ntmps35
  go_wp2_with fail
  refine gen_at (fun w1 => Box w1 w.heap.size #[.int .i64 0, .int .i64 0, .int .i64 0] ∧ Box w1 (w.heap.size + 1) #[.int .i64 0, .int .i64 0, .int .i64 0] ∧ (∀ i, w1.frozen? ⟨w.heap.size, i, none⟩ = false) ∧ (∀ i, w1.frozen? ⟨w.heap.size + 1, i, none⟩ = false) ∧ Below w.heap.size w w1) ⟨(Box.new _ _ _).alloc _, Box.new2 _ _ _ _ _, fz_below (Box.new w _ 46).1 (fz_new _ _ _) (belowA _ _), by have := fz_new (w.alloc (.cells #[.int .i64 0, .int .i64 0, .int .i64 0] 46)) #[.int .i64 0, .int .i64 0, .int .i64 0] 46; rw [World.size_alloc] at this; exact this, belowAA _ _ _⟩ ?_
  rintro w1 ⟨b0, b1, f0, f1, hw1⟩
  have HW1 := Lib.hid hw1
  clear hw1
  go_loopw [8] (fun i wr => ∃ k : Nat, k ≤ n ∧ i = .int .i64 k ∧ Box wr w.heap.size #[.int .i64 0, .int .i64 0, .int .i64 0] ∧ Box wr (w.heap.size + 1) #[.int .i64 (clk (es.take k) 0 : Nat), .int .i64 (clk (es.take k) 1 : Nat), .int .i64 (clk (es.take k) 2 : Nat)] ∧ (∀ i, wr.frozen? ⟨w.heap.size, i, none⟩ = false) ∧ (∀ i, wr.frozen? ⟨w.heap.size + 1, i, none⟩ = false) ∧ Below w.heap.size w wr) (fun i _ => n - (intOf i).toNat)
  case atStart => exact ⟨0, by omega, rfl, b0, by simpa [clk] using b1, f0, f1, HW1.out⟩
  case round =>
    clear b0 b1 f0 f1
    obtain ⟨k, hk, rfl, b0, b1, f0, f1, hbw⟩ := hrel
    have HB := Lib.hid hbw
    have HF0 := Lib.hid f0
    have HF1 := Lib.hid f1
    by_cases hlt : k < n
    · obtain ⟨ad, e, e1, hbk, he, d0, d1, d2, d3, d4, d5⟩ := eat (HL.out.below hbw) (k := k) (by omega)
      have X := fun w => ix22 (c := c) e1 hlt w
      have HT := Lib.hid (take_succ_of he)
      obtain ⟨p0, p1⟩ := HP.out e (List.mem_of_getElem? he)
      have k0 := clk_le (es.take k) 0
      have k1 := clk_le (es.take k) 1
      have k2 := clk_le (es.take k) 2
      have kl := List.length_take_le k es
      obtain ⟨p, q, ⟨a, b, c'⟩, tx⟩ := e
      dsimp only at p0 p1 d0 d1 d2 d3 d4 d5
      obtain ⟨m, rfl⟩ := Int.eq_ofNat_of_zero_le p0
      clear hbw he e1 f0 f1
      have hsz : w.heap.size + 1 < wr.heap.size := b1.1
      rcases (show m = 0 ∨ m = 1 ∨ m = 2 by omega) with rfl | rfl | rfl
      · have Y := fun w' => ix35 (w.heap.size + 1) 0 0 (by omega) w'
        have c1 := (b1.alloc (.cells #[.int .i64 0, .int .i64 q, .int .i64 a, .int .i64 b, .int .i64 c', .string tx] 48)).at
        have z1 := (fz_below b1.1 HF1.out (belowA wr (.cells #[.int .i64 0, .int .i64 q, .int .i64 a, .int .i64 b, .int .i64 c', .string tx] 48)))
        have c1w := b1.at
        have hB1 : Box (wr.setCell ⟨w.heap.size + 1, 0, none⟩ (.int .i64 ((clk (es.take k) 0 : Nat) + 1))) (w.heap.size + 1) #[.int .i64 (clk (es.take (k + 1)) 0 : Nat), .int .i64 (clk (es.take (k + 1)) 1 : Nat), .int .i64 (clk (es.take (k + 1)) 2 : Nat)] := by
          have h := b1.set (i := 0) (by simp) (.int .i64 ((clk (es.take k) 0 : Nat) + 1))
          rw [HT.out, clk_snoc, clk_snoc, clk_snoc]
          simpa using h
        have hB0 := b0.far (p := ⟨w.heap.size + 1, 0, none⟩) (by show w.heap.size ≠ w.heap.size + 1; omega) (.int .i64 ((clk (es.take k) 0 : Nat) + 1))
        have hBB := HB.out.setCell (p := ⟨w.heap.size + 1, 0, none⟩) (Nat.le_succ _) (.int .i64 ((clk (es.take k) 0 : Nat) + 1))
        have g0 : ∀ i, (wr.setCell ⟨w.heap.size + 1, 0, none⟩ (.int .i64 ((clk (es.take k) 0 : Nat) + 1))).frozen? ⟨w.heap.size, i, none⟩ = false := fun i => by rw [World.frozen?_setCell]; exact HF0.out i
        have g1 : ∀ i, (wr.setCell ⟨w.heap.size + 1, 0, none⟩ (.int .i64 ((clk (es.take k) 0 : Nat) + 1))).frozen? ⟨w.heap.size + 1, i, none⟩ = false := fun i => by rw [World.frozen?_setCell]; exact HF1.out i
        have HB1 := Lib.hid (hB1.alloc (.cells #[.int .i64 0, .int .i64 q, .int .i64 a, .int .i64 b, .int .i64 c', .string tx] 48))
        have HB0 := Lib.hid (hB0.alloc (.cells #[.int .i64 0, .int .i64 q, .int .i64 a, .int .i64 b, .int .i64 c', .string tx] 48))
        have HBB := Lib.hid (hBB.alloc (by simp; omega) (.cells #[.int .i64 0, .int .i64 q, .int .i64 a, .int .i64 b, .int .i64 c', .string tx] 48))
        have G0 := Lib.hid (fz_below hB0.1 g0 (belowA _ (.cells #[.int .i64 0, .int .i64 q, .int .i64 a, .int .i64 b, .int .i64 c', .string tx] 48)))
        have G1 := Lib.hid (fz_below hB1.1 g1 (belowA _ (.cells #[.int .i64 0, .int .i64 q, .int .i64 a, .int .i64 b, .int .i64 c', .string tx] 48)))
        clear hB1 hB0 hBB g0 g1
        generalize clk (es.take k) 0 = n0 at k0 c1 HB1 HB0 HBB G0 G1 c1w b1
        generalize clk (es.take k) 1 = n1 at k1 c1 HB1 HB0 HBB G0 G1 c1w b1
        generalize clk (es.take k) 2 = n2 at k2 c1 HB1 HB0 HBB G0 G1 c1w b1
        clear b0 b1
        go_wp2_with fail
        go_roundw
        case rel => exact ⟨k + 1, by omega, by go_num, HB0.out, HB1.out, G0.out, G1.out, HBB.out⟩
        case measure => simp [intOf]; omega
      · have Y := fun w' => ix35 (w.heap.size + 1) 0 1 (by omega) w'
        have c1 := (b1.alloc (.cells #[.int .i64 1, .int .i64 q, .int .i64 a, .int .i64 b, .int .i64 c', .string tx] 48)).at
        have z1 := (fz_below b1.1 HF1.out (belowA wr (.cells #[.int .i64 1, .int .i64 q, .int .i64 a, .int .i64 b, .int .i64 c', .string tx] 48)))
        have c1w := b1.at
        have hB1 : Box (wr.setCell ⟨w.heap.size + 1, 1, none⟩ (.int .i64 ((clk (es.take k) 1 : Nat) + 1))) (w.heap.size + 1) #[.int .i64 (clk (es.take (k + 1)) 0 : Nat), .int .i64 (clk (es.take (k + 1)) 1 : Nat), .int .i64 (clk (es.take (k + 1)) 2 : Nat)] := by
          have h := b1.set (i := 1) (by simp) (.int .i64 ((clk (es.take k) 1 : Nat) + 1))
          rw [HT.out, clk_snoc, clk_snoc, clk_snoc]
          simpa using h
        have hB0 := b0.far (p := ⟨w.heap.size + 1, 1, none⟩) (by show w.heap.size ≠ w.heap.size + 1; omega) (.int .i64 ((clk (es.take k) 1 : Nat) + 1))
        have hBB := HB.out.setCell (p := ⟨w.heap.size + 1, 1, none⟩) (Nat.le_succ _) (.int .i64 ((clk (es.take k) 1 : Nat) + 1))
        have g0 : ∀ i, (wr.setCell ⟨w.heap.size + 1, 1, none⟩ (.int .i64 ((clk (es.take k) 1 : Nat) + 1))).frozen? ⟨w.heap.size, i, none⟩ = false := fun i => by rw [World.frozen?_setCell]; exact HF0.out i
        have g1 : ∀ i, (wr.setCell ⟨w.heap.size + 1, 1, none⟩ (.int .i64 ((clk (es.take k) 1 : Nat) + 1))).frozen? ⟨w.heap.size + 1, i, none⟩ = false := fun i => by rw [World.frozen?_setCell]; exact HF1.out i
        have HB1 := Lib.hid (hB1.alloc (.cells #[.int .i64 1, .int .i64 q, .int .i64 a, .int .i64 b, .int .i64 c', .string tx] 48))
        have HB0 := Lib.hid (hB0.alloc (.cells #[.int .i64 1, .int .i64 q, .int .i64 a, .int .i64 b, .int .i64 c', .string tx] 48))
        have HBB := Lib.hid (hBB.alloc (by simp; omega) (.cells #[.int .i64 1, .int .i64 q, .int .i64 a, .int .i64 b, .int .i64 c', .string tx] 48))
        have G0 := Lib.hid (fz_below hB0.1 g0 (belowA _ (.cells #[.int .i64 1, .int .i64 q, .int .i64 a, .int .i64 b, .int .i64 c', .string tx] 48)))
        have G1 := Lib.hid (fz_below hB1.1 g1 (belowA _ (.cells #[.int .i64 1, .int .i64 q, .int .i64 a, .int .i64 b, .int .i64 c', .string tx] 48)))
        clear hB1 hB0 hBB g0 g1
        generalize clk (es.take k) 0 = n0 at k0 c1 HB1 HB0 HBB G0 G1 c1w b1
        generalize clk (es.take k) 1 = n1 at k1 c1 HB1 HB0 HBB G0 G1 c1w b1
        generalize clk (es.take k) 2 = n2 at k2 c1 HB1 HB0 HBB G0 G1 c1w b1
        clear b0 b1
        go_wp2_with fail
        go_roundw
        case rel => exact ⟨k + 1, by omega, by go_num, HB0.out, HB1.out, G0.out, G1.out, HBB.out⟩
        case measure => simp [intOf]; omega
      · have Y := fun w' => ix35 (w.heap.size + 1) 0 2 (by omega) w'
        have c1 := (b1.alloc (.cells #[.int .i64 2, .int .i64 q, .int .i64 a, .int .i64 b, .int .i64 c', .string tx] 48)).at
        have z1 := (fz_below b1.1 HF1.out (belowA wr (.cells #[.int .i64 2, .int .i64 q, .int .i64 a, .int .i64 b, .int .i64 c', .string tx] 48)))
        have c1w := b1.at
        have hB1 : Box (wr.setCell ⟨w.heap.size + 1, 2, none⟩ (.int .i64 ((clk (es.take k) 2 : Nat) + 1))) (w.heap.size + 1) #[.int .i64 (clk (es.take (k + 1)) 0 : Nat), .int .i64 (clk (es.take (k + 1)) 1 : Nat), .int .i64 (clk (es.take (k + 1)) 2 : Nat)] := by
          have h := b1.set (i := 2) (by simp) (.int .i64 ((clk (es.take k) 2 : Nat) + 1))
          rw [HT.out, clk_snoc, clk_snoc, clk_snoc]
          simpa using h
        have hB0 := b0.far (p := ⟨w.heap.size + 1, 2, none⟩) (by show w.heap.size ≠ w.heap.size + 1; omega) (.int .i64 ((clk (es.take k) 2 : Nat) + 1))
        have hBB := HB.out.setCell (p := ⟨w.heap.size + 1, 2, none⟩) (Nat.le_succ _) (.int .i64 ((clk (es.take k) 2 : Nat) + 1))
        have g0 : ∀ i, (wr.setCell ⟨w.heap.size + 1, 2, none⟩ (.int .i64 ((clk (es.take k) 2 : Nat) + 1))).frozen? ⟨w.heap.size, i, none⟩ = false := fun i => by rw [World.frozen?_setCell]; exact HF0.out i
        have g1 : ∀ i, (wr.setCell ⟨w.heap.size + 1, 2, none⟩ (.int .i64 ((clk (es.take k) 2 : Nat) + 1))).frozen? ⟨w.heap.size + 1, i, none⟩ = false := fun i => by rw [World.frozen?_setCell]; exact HF1.out i
        have HB1 := Lib.hid (hB1.alloc (.cells #[.int .i64 2, .int .i64 q, .int .i64 a, .int .i64 b, .int .i64 c', .string tx] 48))
        have HB0 := Lib.hid (hB0.alloc (.cells #[.int .i64 2, .int .i64 q, .int .i64 a, .int .i64 b, .int .i64 c', .string tx] 48))
        have HBB := Lib.hid (hBB.alloc (by simp; omega) (.cells #[.int .i64 2, .int .i64 q, .int .i64 a, .int .i64 b, .int .i64 c', .string tx] 48))
        have G0 := Lib.hid (fz_below hB0.1 g0 (belowA _ (.cells #[.int .i64 2, .int .i64 q, .int .i64 a, .int .i64 b, .int .i64 c', .string tx] 48)))
        have G1 := Lib.hid (fz_below hB1.1 g1 (belowA _ (.cells #[.int .i64 2, .int .i64 q, .int .i64 a, .int .i64 b, .int .i64 c', .string tx] 48)))
        clear hB1 hB0 hBB g0 g1
        generalize clk (es.take k) 0 = n0 at k0 c1 HB1 HB0 HBB G0 G1 c1w b1
        generalize clk (es.take k) 1 = n1 at k1 c1 HB1 HB0 HBB G0 G1 c1w b1
        generalize clk (es.take k) 2 = n2 at k2 c1 HB1 HB0 HBB G0 G1 c1w b1
        clear b0 b1
        go_wp2_with fail
        go_roundw
        case rel => exact ⟨k + 1, by omega, by go_num, HB0.out, HB1.out, G0.out, G1.out, HBB.out⟩
        case measure => simp [intOf]; omega
    · have HT := Lib.hid (show es.take k = es from List.take_of_length_le (by omega))
      rw [HT.out] at b1
      have c1 := b1.at
      have c0 := b0.at
      have z0 := HF0.out
      have HBX := Lib.hid b0
      clear hbw
      go_wp2_with fail
      have b2 := ((HBX.out.set (i := 0) (by simp) (.int .i64 (clk es 0 : Nat))).set (i := 1) (by simp) (.int .i64 (clk es 1 : Nat))).set (i := 2) (by simp) (.int .i64 (clk es 2 : Nat))
      have cF := b2.at
      exact bodyPost_ret (v := clkV es) (by simp [results, Tryz.results35, go_sem, cF]) rfl ⟨rfl, ((HB.out.setCell (p := ⟨w.heap.size, 0, none⟩) (Nat.le_refl _) _).setCell (p := ⟨w.heap.size, 1, none⟩) (Nat.le_refl _) _).setCell (p := ⟨w.heap.size, 2, none⟩) (Nat.le_refl _) _⟩
set_option maxRecDepth 10000 in
set_option maxHeartbeats 1000000 in
theorem refClock_any (A : Option Addr) (n c : Nat) (es : List Ent) (w : World) (hl : Reads w w.heap.size 6 A n (ents es)) (hn : n ≤ 1000000) (hp : ∀ e ∈ es, 0 ≤ e.1 ∧ e.1 ≤ 2) :
    Calls Tryz.prog 56 #[.slice A n c] w fun r w' => r = .returned (clkV es) ∧ Below w.heap.size w w' := by
  have hlen := hl.1
  rw [ents_length] at hlen
  have l1 : n ≤ es.length := by omega
  have l2 : es.length ≤ n := by omega
  have HL := Lib.hid hl
  have HP := Lib.hid hp
  clear hl hlen hp
  go_enter Tryz.func56, Tryz.ntmps56
  go_wp2_with fail
  refine gen_at (fun w1 => Box w1 w.heap.size #[.int .i64 0, .int .i64 0, .int .i64 0] ∧ Box w1 (w.heap.size + 1) #[.int .i64 0, .int .i64 0, .int .i64 0] ∧ (∀ i, w1.frozen? ⟨w.heap.size, i, none⟩ = false) ∧ (∀ i, w1.frozen? ⟨w.heap.size + 1, i, none⟩ = false) ∧ Below w.heap.size w w1) ⟨(Box.new _ _ _).alloc _, Box.new2 _ _ _ _ _, fz_below (Box.new w _ 46).1 (fz_new _ _ _) (belowA _ _), by have := fz_new (w.alloc (.cells #[.int .i64 0, .int .i64 0, .int .i64 0] 46)) #[.int .i64 0, .int .i64 0, .int .i64 0] 46; rw [World.size_alloc] at this; exact this, belowAA _ _ _⟩ ?_
  rintro w1 ⟨b0, b1, f0, f1, hw1⟩
  have HW1 := Lib.hid hw1
  clear hw1
  go_loopw [4] (fun i wr => ∃ k : Nat, k ≤ n ∧ i = .int .i64 k ∧ Box wr w.heap.size #[.int .i64 0, .int .i64 0, .int .i64 0] ∧ Box wr (w.heap.size + 1) #[.int .i64 (clk (es.take k) 0 : Nat), .int .i64 (clk (es.take k) 1 : Nat), .int .i64 (clk (es.take k) 2 : Nat)] ∧ (∀ i, wr.frozen? ⟨w.heap.size, i, none⟩ = false) ∧ (∀ i, wr.frozen? ⟨w.heap.size + 1, i, none⟩ = false) ∧ Below w.heap.size w wr) (fun i _ => n - (intOf i).toNat)
  case atStart => exact ⟨0, by omega, rfl, b0, by simpa [clk] using b1, f0, f1, HW1.out⟩
  case round =>
    clear b0 b1 f0 f1
    obtain ⟨k, hk, rfl, b0, b1, f0, f1, hbw⟩ := hrel
    have HB := Lib.hid hbw
    have HF0 := Lib.hid f0
    have HF1 := Lib.hid f1
    by_cases hlt : k < n
    · obtain ⟨ad, e, e1, hbk, he, d0, d1, d2, d3, d4, d5⟩ := eat (HL.out.below hbw) (k := k) (by omega)
      have X := fun w => ix22 (c := c) e1 hlt w
      have HT := Lib.hid (take_succ_of he)
      obtain ⟨p0, p1⟩ := HP.out e (List.mem_of_getElem? he)
      have k0 := clk_le (es.take k) 0
      have k1 := clk_le (es.take k) 1
      have k2 := clk_le (es.take k) 2
      have kl := List.length_take_le k es
      obtain ⟨p, q, ⟨a, b, c'⟩, tx⟩ := e
      dsimp only at p0 p1 d0 d1 d2 d3 d4 d5
      obtain ⟨m, rfl⟩ := Int.eq_ofNat_of_zero_le p0
      clear hbw he e1 f0 f1
      have hsz : w.heap.size + 1 < wr.heap.size := b1.1
      rcases (show m = 0 ∨ m = 1 ∨ m = 2 by omega) with rfl | rfl | rfl
      · have Y := fun w' => ix35 (w.heap.size + 1) 0 0 (by omega) w'
        have c1 := b1.at
        have z1 := HF1.out
        skip
        have hB1 : Box (wr.setCell ⟨w.heap.size + 1, 0, none⟩ (.int .i64 ((clk (es.take k) 0 : Nat) + 1))) (w.heap.size + 1) #[.int .i64 (clk (es.take (k + 1)) 0 : Nat), .int .i64 (clk (es.take (k + 1)) 1 : Nat), .int .i64 (clk (es.take (k + 1)) 2 : Nat)] := by
          have h := b1.set (i := 0) (by simp) (.int .i64 ((clk (es.take k) 0 : Nat) + 1))
          rw [HT.out, clk_snoc, clk_snoc, clk_snoc]
          simpa using h
        have hB0 := b0.far (p := ⟨w.heap.size + 1, 0, none⟩) (by show w.heap.size ≠ w.heap.size + 1; omega) (.int .i64 ((clk (es.take k) 0 : Nat) + 1))
        have hBB := HB.out.setCell (p := ⟨w.heap.size + 1, 0, none⟩) (Nat.le_succ _) (.int .i64 ((clk (es.take k) 0 : Nat) + 1))
        have g0 : ∀ i, (wr.setCell ⟨w.heap.size + 1, 0, none⟩ (.int .i64 ((clk (es.take k) 0 : Nat) + 1))).frozen? ⟨w.heap.size, i, none⟩ = false := fun i => by rw [World.frozen?_setCell]; exact HF0.out i
        have g1 : ∀ i, (wr.setCell ⟨w.heap.size + 1, 0, none⟩ (.int .i64 ((clk (es.take k) 0 : Nat) + 1))).frozen? ⟨w.heap.size + 1, i, none⟩ = false := fun i => by rw [World.frozen?_setCell]; exact HF1.out i
        have HB1 := Lib.hid (hB1)
        have HB0 := Lib.hid (hB0)
        have HBB := Lib.hid (hBB)
        have G0 := Lib.hid (g0)
        have G1 := Lib.hid (g1)
        clear hB1 hB0 hBB g0 g1
        generalize clk (es.take k) 0 = n0 at k0 c1 HB1 HB0 HBB G0 G1 b1
        generalize clk (es.take k) 1 = n1 at k1 c1 HB1 HB0 HBB G0 G1 b1
        generalize clk (es.take k) 2 = n2 at k2 c1 HB1 HB0 HBB G0 G1 b1
        clear b0 b1
        go_wp2_with fail
        go_roundw
        case rel => exact ⟨k + 1, by omega, by go_num, HB0.out, HB1.out, G0.out, G1.out, HBB.out⟩
        case measure => simp [intOf]; omega
      · have Y := fun w' => ix35 (w.heap.size + 1) 0 1 (by omega) w'
        have c1 := b1.at
        have z1 := HF1.out
        skip
        have hB1 : Box (wr.setCell ⟨w.heap.size + 1, 1, none⟩ (.int .i64 ((clk (es.take k) 1 : Nat) + 1))) (w.heap.size + 1) #[.int .i64 (clk (es.take (k + 1)) 0 : Nat), .int .i64 (clk (es.take (k + 1)) 1 : Nat), .int .i64 (clk (es.take (k + 1)) 2 : Nat)] := by
          have h := b1.set (i := 1) (by simp) (.int .i64 ((clk (es.take k) 1 : Nat) + 1))
          rw [HT.out, clk_snoc, clk_snoc, clk_snoc]
          simpa using h
        have hB0 := b0.far (p := ⟨w.heap.size + 1, 1, none⟩) (by show w.heap.size ≠ w.heap.size + 1; omega) (.int .i64 ((clk (es.take k) 1 : Nat) + 1))
        have hBB := HB.out.setCell (p := ⟨w.heap.size + 1, 1, none⟩) (Nat.le_succ _) (.int .i64 ((clk (es.take k) 1 : Nat) + 1))
        have g0 : ∀ i, (wr.setCell ⟨w.heap.size + 1, 1, none⟩ (.int .i64 ((clk (es.take k) 1 : Nat) + 1))).frozen? ⟨w.heap.size, i, none⟩ = false := fun i => by rw [World.frozen?_setCell]; exact HF0.out i
        have g1 : ∀ i, (wr.setCell ⟨w.heap.size + 1, 1, none⟩ (.int .i64 ((clk (es.take k) 1 : Nat) + 1))).frozen? ⟨w.heap.size + 1, i, none⟩ = false := fun i => by rw [World.frozen?_setCell]; exact HF1.out i
        have HB1 := Lib.hid (hB1)
        have HB0 := Lib.hid (hB0)
        have HBB := Lib.hid (hBB)
        have G0 := Lib.hid (g0)
        have G1 := Lib.hid (g1)
        clear hB1 hB0 hBB g0 g1
        generalize clk (es.take k) 0 = n0 at k0 c1 HB1 HB0 HBB G0 G1 b1
        generalize clk (es.take k) 1 = n1 at k1 c1 HB1 HB0 HBB G0 G1 b1
        generalize clk (es.take k) 2 = n2 at k2 c1 HB1 HB0 HBB G0 G1 b1
        clear b0 b1
        go_wp2_with fail
        go_roundw
        case rel => exact ⟨k + 1, by omega, by go_num, HB0.out, HB1.out, G0.out, G1.out, HBB.out⟩
        case measure => simp [intOf]; omega
      · have Y := fun w' => ix35 (w.heap.size + 1) 0 2 (by omega) w'
        have c1 := b1.at
        have z1 := HF1.out
        skip
        have hB1 : Box (wr.setCell ⟨w.heap.size + 1, 2, none⟩ (.int .i64 ((clk (es.take k) 2 : Nat) + 1))) (w.heap.size + 1) #[.int .i64 (clk (es.take (k + 1)) 0 : Nat), .int .i64 (clk (es.take (k + 1)) 1 : Nat), .int .i64 (clk (es.take (k + 1)) 2 : Nat)] := by
          have h := b1.set (i := 2) (by simp) (.int .i64 ((clk (es.take k) 2 : Nat) + 1))
          rw [HT.out, clk_snoc, clk_snoc, clk_snoc]
          simpa using h
        have hB0 := b0.far (p := ⟨w.heap.size + 1, 2, none⟩) (by show w.heap.size ≠ w.heap.size + 1; omega) (.int .i64 ((clk (es.take k) 2 : Nat) + 1))
        have hBB := HB.out.setCell (p := ⟨w.heap.size + 1, 2, none⟩) (Nat.le_succ _) (.int .i64 ((clk (es.take k) 2 : Nat) + 1))
        have g0 : ∀ i, (wr.setCell ⟨w.heap.size + 1, 2, none⟩ (.int .i64 ((clk (es.take k) 2 : Nat) + 1))).frozen? ⟨w.heap.size, i, none⟩ = false := fun i => by rw [World.frozen?_setCell]; exact HF0.out i
        have g1 : ∀ i, (wr.setCell ⟨w.heap.size + 1, 2, none⟩ (.int .i64 ((clk (es.take k) 2 : Nat) + 1))).frozen? ⟨w.heap.size + 1, i, none⟩ = false := fun i => by rw [World.frozen?_setCell]; exact HF1.out i
        have HB1 := Lib.hid (hB1)
        have HB0 := Lib.hid (hB0)
        have HBB := Lib.hid (hBB)
        have G0 := Lib.hid (g0)
        have G1 := Lib.hid (g1)
        clear hB1 hB0 hBB g0 g1
        generalize clk (es.take k) 0 = n0 at k0 c1 HB1 HB0 HBB G0 G1 b1
        generalize clk (es.take k) 1 = n1 at k1 c1 HB1 HB0 HBB G0 G1 b1
        generalize clk (es.take k) 2 = n2 at k2 c1 HB1 HB0 HBB G0 G1 b1
        clear b0 b1
        go_wp2_with fail
        go_roundw
        case rel => exact ⟨k + 1, by omega, by go_num, HB0.out, HB1.out, G0.out, G1.out, HBB.out⟩
        case measure => simp [intOf]; omega
    · have HT := Lib.hid (show es.take k = es from List.take_of_length_le (by omega))
      rw [HT.out] at b1
      have c1 := b1.at
      have c0 := b0.at
      have z0 := HF0.out
      have HBX := Lib.hid b0
      clear hbw
      go_wp2_with fail
      have b2 := ((HBX.out.set (i := 0) (by simp) (.int .i64 (clk es 0 : Nat))).set (i := 1) (by simp) (.int .i64 (clk es 1 : Nat))).set (i := 2) (by simp) (.int .i64 (clk es 2 : Nat))
      have cF := b2.at
      exact bodyPost_ret (v := clkV es) (by simp [results, Tryz.results56, go_sem, cF]) rfl ⟨rfl, ((HB.out.setCell (p := ⟨w.heap.size, 0, none⟩) (Nat.le_refl _) _).setCell (p := ⟨w.heap.size, 1, none⟩) (Nat.le_refl _) _).setCell (p := ⟨w.heap.size, 2, none⟩) (Nat.le_refl _) _⟩
end Go.Proofs.YtnlhllleipemlaaGreatDoor

namespace Go.Proofs.YtnlhllleipemlaaGreatDoor
open Go.RowKit Go.Sort

/-- The byte at a place. -/
def bt (t : ByteArray) (i : Nat) : Int := if h : i < t.size then (t[i].toNat : Int) else 0
theorem bt_bd (t : ByteArray) (i : Nat) : 0 ≤ bt t i ∧ bt t i ≤ 255 := by
  unfold bt
  split
  · have := UInt8.toNat_lt t[i]; omega
  · omega
theorem bt_in {t : ByteArray} {i : Nat} (h : i < t.size) : bt t i = (t[i].toNat : Int) := by unfold bt; rw [dif_pos h]
def okB (t : ByteArray) (i : Nat) : Prop := 32 ≤ bt t i ∧ bt t i ≤ 126
instance (t : ByteArray) (i : Nat) : Decidable (okB t i) := by unfold okB; infer_instance
def edgeB (t : ByteArray) : Prop := 1 ≤ t.size ∧ t.size ≤ 60 ∧ bt t 0 ≠ 32 ∧ bt t (t.size - 1) ≠ 32
instance (t : ByteArray) : Decidable (edgeB t) := by unfold edgeB; infer_instance
def right (t : ByteArray) : Bool := decide (edgeB t ∧ ∀ i, i < t.size → okB t i)
theorem right_edge {t : ByteArray} (h : ¬ edgeB t) : right t = false := by unfold right; rw [decide_eq_false_iff_not]; exact fun h' => h h'.1
theorem right_at {t : ByteArray} {i : Nat} (hi : i < t.size) (h : ¬ okB t i) : right t = false := by unfold right; rw [decide_eq_false_iff_not]; exact fun h' => h (h'.2 i hi)
theorem right_all {t : ByteArray} (h : edgeB t) (h2 : ∀ i, i < t.size → okB t i) : right t = true := by unfold right; rw [decide_eq_true_eq]; exact ⟨h, h2⟩
set_option maxRecDepth 4000 in
theorem refRight_any (t : ByteArray) (w : World) (ht : t.size ≤ 1000000) :
    Calls Tryz.prog 55 #[.string t] w fun r w' => r = .returned (.bool (right t)) ∧ Below w.heap.size w w' := by
  go_enter Tryz.func55, Tryz.ntmps55
  by_cases he : edgeB t
  case neg =>
    have HF := Lib.hid (right_edge he)
    have hc : t.size < 1 ∨ (1 ≤ t.size ∧ (60 < t.size ∨ (t.size ≤ 60 ∧ (bt t 0 = 32 ∨ (bt t 0 ≠ 32 ∧ bt t (t.size - 1) = 32))))) := by
      unfold edgeB at he
      omega
    clear he
    rcases hc with h1 | ⟨h1, h2 | ⟨h2, h3 | ⟨h3, h4⟩⟩⟩
    · go_wp2_with fail
      go_ret
      exact ⟨ret_bool HF.out.symm, Below.refl _ _⟩
    · go_wp2_with fail
      go_ret
      exact ⟨ret_bool HF.out.symm, Below.refl _ _⟩
    · have g : ((t[0].toNat : Int) == 32) = true := by rw [beq_iff_eq]; exact (bt_in (by omega)).symm.trans h3
      clear h3
      go_wp2_with fail
      go_ret
      exact ⟨ret_bool HF.out.symm, Below.refl _ _⟩
    · have g : ((t[0].toNat : Int) == 32) = false := by rw [beq_eq_false_iff_ne, ← bt_in (by omega)]; exact h3
      have g2 : ((t[t.size - 1].toNat : Int) == 32) = true := by rw [beq_iff_eq]; exact (bt_in (by omega)).symm.trans h4
      clear h3 h4
      go_wp2_with fail
      go_ret
      exact ⟨ret_bool HF.out.symm, Below.refl _ _⟩
  have HE := Lib.hid he
  obtain ⟨h1, h2, h3, h4⟩ := he
  have g3 : ((t[0].toNat : Int) == 32) = false := by rw [beq_eq_false_iff_ne, ← bt_in (by omega)]; exact h3
  have g4 : ((t[t.size - 1].toNat : Int) == 32) = false := by rw [beq_eq_false_iff_ne, ← bt_in (by omega)]; exact h4
  clear h3 h4
  go_wp2_with fail
  clear g3 g4
  go_loopw [3] (fun i wr => ∃ k : Nat, k ≤ t.size ∧ i = .int .i64 k ∧ (∀ j, j < k → okB t j) ∧ wr = w) (fun i _ => t.size - (intOf i).toNat)
  case atStart => exact ⟨0, by omega, rfl, fun j hj => by omega, rfl⟩
  case round =>
    obtain ⟨k, hk, rfl, hno, hwr⟩ := hrel
    have HN := Lib.hid hno
    have HW := Lib.hid hwr
    clear hno hwr
    by_cases hlt : k < t.size
    · have hb := bt_bd t k
      by_cases hok : okB t k
      · have HO := Lib.hid hok
        obtain ⟨o1, o2⟩ := hok
        rw [bt_in hlt] at o1 o2 hb
        obtain ⟨b2, b3⟩ := hb
        go_wp2_with fail
        go_roundw
        case rel =>
          refine ⟨k + 1, by omega, by go_num, fun j hj => ?_, HW.out⟩
          rcases Nat.lt_or_ge j k with h | h
          · exact HN.out j h
          · obtain rfl : j = k := by omega
            exact HO.out
        case measure => simp [intOf]; omega
      · have HF := Lib.hid (right_at hlt hok)
        have hc : bt t k < 32 ∨ (32 ≤ bt t k ∧ 126 < bt t k) := by unfold okB at hok; omega
        clear hok
        rw [bt_in hlt] at hc hb
        obtain ⟨b2, b3⟩ := hb
        rcases hc with o1 | ⟨o1, o2⟩
        all_goals
          go_wp2_with fail
          go_ret
          exact ⟨ret_bool HF.out.symm, HW.out ▸ Below.refl _ _⟩
    · have HT := Lib.hid (right_all HE.out fun i hi => HN.out i (by omega))
      go_wp2_with fail
      go_ret
      exact ⟨ret_bool HT.out.symm, HW.out ▸ Below.refl _ _⟩
end Go.Proofs.YtnlhllleipemlaaGreatDoor

namespace Go.Proofs.YtnlhllleipemlaaGreatDoor
open Go.RowKit Go.Sort

theorem wrongByte_any (b : Int) (w : World) :
    Calls Tryz.prog 64 #[.int .u8 b] w fun r w' => r = .returned (.bool (!decide (32 ≤ b ∧ b ≤ 126))) ∧ w' = w := by
  go_enter Tryz.func64, Tryz.ntmps64
  by_cases h1 : b < 32
  · go_wp2_with fail
    go_ret
    exact ⟨ret_bool (by simp; omega), rfl⟩
  · by_cases h2 : 126 < b
    · go_wp2_with fail
      go_ret
      exact ⟨ret_bool (by simp; omega), rfl⟩
    · go_wp2_with fail
      go_ret
      exact ⟨ret_bool (by first | (simp; done) | (simp; omega)), rfl⟩
theorem ix69 {ad : Addr} {n c k : Nat} (hk : k < n) (w : World) : (Instr.indexAt 97 (.slice (some ad) n c) (.int .i64 (k : Int))).run Tryz.prog w = .ok (.pointer (some (ad.add k))) w := by
  have h0 : (0 : Int) ≤ (k : Int) ∧ (k : Int) < (n : Int) := by omega
  have hs : (sizeOf (Tryz.prog.elem 97)).run Tryz.prog w = .ok 1 w := by kernel_rfl
  rw [run_indexAt_slice w 97 ad n c .i64 k (by kernel_rfl), if_pos h0, hs]
  simp [Result.andThen]
theorem wrongAt_any (ad : Addr) (c : Nat) (t : ByteArray) (w : World) (hc : ∀ k, k < t.size → w.cell? (ad.add k) = some (.int .u8 (bt t k))) (ht : t.size ≤ 1000000) :
    Calls Tryz.prog 90 #[.slice (some ad) t.size c, .func (.func 64) #[] #[]] w fun r w' => (∃ i : Int, r = .returned (.int .i64 i) ∧ (0 ≤ i ↔ ∃ k, k < t.size ∧ ¬ okB t k)) ∧ w' = w := by
  have HC := Lib.hid hc
  clear hc
  go_enter Tryz.func90, Tryz.ntmps90
  go_wp2_with fail
  go_loopw [8] (fun i wr => ∃ k : Nat, k ≤ t.size ∧ i = .int .i64 k ∧ (∀ j, j < k → okB t j) ∧ wr = w) (fun i _ => t.size - (intOf i).toNat)
  case atStart => exact ⟨0, by omega, rfl, fun j hj => by omega, rfl⟩
  case round =>
    obtain ⟨k, hk, rfl, hno, hwr⟩ := hrel
    have HN := Lib.hid hno
    clear hno
    subst hwr
    by_cases hlt : k < t.size
    · have X := fun w => ix69 (ad := ad) (c := c) hlt w
      have c0 := HC.out k hlt
      go_wp2_with fail
      with_reducible refine (wrongByte_any (bt t k) _).mono ?_
      rintro _ _ ⟨rfl, rfl⟩
      by_cases hok : okB t k
      · have g : (decide (32 ≤ bt t k ∧ bt t k ≤ 126)) = true := by rw [decide_eq_true_eq]; exact hok
        rw [g]
        have HO := Lib.hid hok
        clear hok g
        go_wp2_with fail
        go_roundw
        case rel =>
          refine ⟨k + 1, by omega, by go_num, fun j hj => ?_, by trivial⟩
          rcases Nat.lt_or_ge j k with h | h
          · exact HN.out j h
          · obtain rfl : j = k := by omega
            exact HO.out
        case measure => simp [intOf]; omega
      · have g : (decide (32 ≤ bt t k ∧ bt t k ≤ 126)) = false := by rw [decide_eq_false_iff_not]; exact hok
        rw [g]
        have HO := Lib.hid hok
        clear hok g
        go_wp2_with fail
        go_ret
        exact ⟨⟨k, rfl, ⟨fun _ => ⟨k, hlt, HO.out⟩, fun _ => by omega⟩⟩, rfl⟩
    · go_wp2_with fail
      go_ret
      exact ⟨⟨-1, rfl, ⟨fun h => by omega, fun ⟨j, h1, h2⟩ => absurd (HN.out j (by omega)) h2⟩⟩, rfl⟩
theorem wrongIn_any (ad : Addr) (c : Nat) (t : ByteArray) (w : World) (hc : ∀ k, k < t.size → w.cell? (ad.add k) = some (.int .u8 (bt t k))) (ht : t.size ≤ 1000000) :
    Calls Tryz.prog 63 #[.slice (some ad) t.size c, .func (.func 64) #[] #[]] w fun r w' => r = .returned (.bool (decide (∃ k, k < t.size ∧ ¬ okB t k))) ∧ w' = w := by
  have HC := Lib.hid hc
  clear hc
  go_enter Tryz.func63, Tryz.ntmps63
  go_wp2_with fail
  with_reducible refine (wrongAt_any ad c t w HC.out ht).mono ?_
  rintro _ _ ⟨⟨i, rfl, hi⟩, rfl⟩
  have HI := Lib.hid hi
  clear hi
  go_wp2_with fail
  go_ret
  refine ⟨ret_bool ?_, rfl⟩
  rw [decide_eq_decide]
  exact HI.out
theorem bytes_at (t : ByteArray) (cap k : Nat) (hk : k < t.size) : (bytesRow t cap)[k]? = some (.int .u8 (bt t k)) := by
  rw [bytesRow_at t cap k hk, bt_in hk]
  rfl
set_option maxRecDepth 4000 in
theorem rightText_any (t : ByteArray) (w : World) (ht : t.size ≤ 1000000) :
    Calls Tryz.prog 34 #[.string t] w fun r w' => r = .returned (.bool (right t)) ∧ Below w.heap.size w w' := by
  go_enter Tryz.func34, Tryz.ntmps34
  by_cases he : edgeB t
  case neg =>
    have HF := Lib.hid (right_edge he)
    have hc : t.size < 1 ∨ (1 ≤ t.size ∧ (60 < t.size ∨ (t.size ≤ 60 ∧ (bt t 0 = 32 ∨ (bt t 0 ≠ 32 ∧ bt t (t.size - 1) = 32))))) := by
      unfold edgeB at he
      omega
    clear he
    rcases hc with h1 | ⟨h1, h2 | ⟨h2, h3 | ⟨h3, h4⟩⟩⟩
    · go_wp2_with fail
      go_ret
      exact ⟨ret_bool HF.out.symm, Below.refl _ _⟩
    · go_wp2_with fail
      go_ret
      exact ⟨ret_bool HF.out.symm, Below.refl _ _⟩
    · have g : ((t[0].toNat : Int) == 32) = true := by rw [beq_iff_eq]; exact (bt_in (by omega)).symm.trans h3
      clear h3
      go_wp2_with fail
      go_ret
      exact ⟨ret_bool HF.out.symm, Below.refl _ _⟩
    · have g : ((t[0].toNat : Int) == 32) = false := by rw [beq_eq_false_iff_ne, ← bt_in (by omega)]; exact h3
      have g2 : ((t[t.size - 1].toNat : Int) == 32) = true := by rw [beq_iff_eq]; exact (bt_in (by omega)).symm.trans h4
      clear h3 h4
      go_wp2_with fail
      go_ret
      exact ⟨ret_bool HF.out.symm, Below.refl _ _⟩
  have HE := Lib.hid he
  obtain ⟨h1, h2, h3, h4⟩ := he
  have g3 : ((t[0].toNat : Int) == 32) = false := by rw [beq_eq_false_iff_ne, ← bt_in (by omega)]; exact h3
  have g4 : ((t[t.size - 1].toNat : Int) == 32) = false := by rw [beq_eq_false_iff_ne, ← bt_in (by omega)]; exact h4
  clear h3 h4
  have C := run_bytes_of_string (P := Tryz.prog) w 9 97 5 t (by kernel_rfl) (by kernel_rfl) (by kernel_rfl)
  go_wp2_with fail
  with_reducible refine (wrongIn_any ⟨w.heap.size, 0, none⟩ _ t _ (fun k hk => ?_) ht).mono ?_
  · have e1 : (⟨w.heap.size, 0, none⟩ : Addr).add k = ⟨w.heap.size, k, none⟩ := by
      unfold Addr.add
      split
      · rename_i h0; rw [h0]
      · simp
    rw [e1]
    exact (cell_of_row _ _ k _ 5 _ (heap_alloc_new w _)).trans (bytes_at t _ k hk)
  rintro _ _ ⟨rfl, rfl⟩
  go_wp2_with fail
  go_ret
  refine ⟨ret_bool ?_, below_drewN' (below_alloc w _) 1⟩
  by_cases hall : ∀ k, k < t.size → okB t k
  · rw [right_all HE.out hall, decide_eq_false (fun ⟨k, hk, hn⟩ => hn (hall k hk))]; rfl
  · have : ∃ k, k < t.size ∧ ¬ okB t k := by
      refine Classical.byContradiction fun hn => hall fun k hk => Classical.byContradiction fun h => hn ⟨k, hk, h⟩
    obtain ⟨k, hk, hn⟩ := this
    rw [right_at hk hn, decide_eq_true ⟨k, hk, hn⟩]; rfl
end Go.Proofs.YtnlhllleipemlaaGreatDoor

namespace Go.Proofs.YtnlhllleipemlaaGreatDoor
open Go.RowKit Go.Sort

/-- Something is wrong with what an entry has seen of a place. -/
def badP (es : List Ent) (e : Ent) (p : Nat) : Prop := ((p : Int) = e.1 ∧ e.sn p ≠ e.2.1 - 1) ∨ e.sn p < 0 ∨ (clk es p : Int) < e.sn p
instance (es : List Ent) (e : Ent) (p : Nat) : Decidable (badP es e p) := by unfold badP; infer_instance
/-- Of two entries the one has seen less of some place. -/
def lowE (e f : Ent) : Prop := ∃ p : Nat, p < 3 ∧ e.sn p < f.sn p
instance (e f : Ent) : Decidable (lowE e f) := by unfold lowE; infer_instance
def wrong (es : List Ent) (e : Ent) : Prop := (∃ p : Nat, p < 3 ∧ badP es e p) ∨ ∃ f ∈ es, sawE e f = true ∧ lowE e f
instance (es : List Ent) (e : Ent) : Decidable (wrong es e) := by unfold wrong; infer_instance
def okT (e : Ent) : Prop := 0 ≤ e.1 ∧ e.1 ≤ 2 ∧ right e.2.2.2 = true
instance (e : Ent) : Decidable (okT e) := by unfold okT; infer_instance
def ordR : List Ent → Prop
  | [] => True
  | e :: l => ordR l ∧ (∀ f ∈ l, f.1 ≤ e.1) ∧ e.2.1 = clk l e.1 + 1
instance ordR_dec : ∀ l, Decidable (ordR l)
  | [] => .isTrue trivial
  | e :: l => by
    have := ordR_dec l
    unfold ordR
    infer_instance
/-- The entries come in order of places, those of a place are numbered from 1. -/
def Ord (es : List Ent) : Prop := ordR es.reverse
instance (es : List Ent) : Decidable (Ord es) := by unfold Ord; infer_instance
theorem Ord_nil : Ord [] := trivial
theorem clk_reverse (l : List Ent) (p : Int) : clk l.reverse p = clk l p := by
  unfold clk
  rw [List.filter_reverse, List.length_reverse]
theorem Ord_snoc {l : List Ent} {e : Ent} : Ord (l ++ [e]) ↔ Ord l ∧ (∀ f ∈ l, f.1 ≤ e.1) ∧ e.2.1 = clk l e.1 + 1 := by
  unfold Ord
  rw [List.reverse_append]
  show (ordR l.reverse ∧ (∀ f ∈ l.reverse, f.1 ≤ e.1) ∧ e.2.1 = clk l.reverse e.1 + 1) ↔ _
  rw [clk_reverse]
  simp only [List.mem_reverse]
theorem ordR_behind : ∀ {a b : List Ent}, ordR (a ++ b) → ordR b
  | [], _, h => h
  | _ :: a, _, h => ordR_behind (a := a) h.1
theorem Ord_left {a b : List Ent} (h : Ord (a ++ b)) : Ord a := by
  unfold Ord at h ⊢
  rw [List.reverse_append] at h
  exact ordR_behind h
theorem Ord_take {es : List Ent} (h : Ord es) (k : Nat) : Ord (es.take k) := Ord_left (b := es.drop k) (by rwa [List.take_append_drop])
/-- The error of a list of entries. -/
def val (es : List Ent) : Int := if 60 < es.length then 4 else if ¬ (∀ e ∈ es, okT e) then 1 else if ¬ Ord es then 1 else if ∃ e ∈ es, wrong es e then 11 else 0
structure Card (es : List Ent) : Prop where
  len : es.length ≤ 60
  txt : ∀ e ∈ es, okT e
  ord : Ord es
  saw : ∀ e ∈ es, ¬ wrong es e
theorem val_zero {es : List Ent} : val es = 0 ↔ Card es := by
  unfold val
  constructor
  · intro h
    split at h
    · exact absurd h (by decide)
    rename_i h1
    split at h
    · exact absurd h (by decide)
    rename_i h2
    split at h
    · exact absurd h (by decide)
    rename_i h3
    split at h
    · exact absurd h (by decide)
    rename_i h4
    exact ⟨by omega, Classical.not_not.1 h2, Classical.not_not.1 h3, fun e he hw => h4 ⟨e, he, hw⟩⟩
  · rintro ⟨h1, h2, h3, h4⟩
    rw [if_neg (by omega), if_neg (fun h => h h2), if_neg (fun h => h h3), if_neg (fun ⟨e, he, hw⟩ => h4 e he hw)]
theorem val_large {es : List Ent} (h : 60 < es.length) : val es = 4 := if_pos h
theorem val_txt {es : List Ent} (h : es.length ≤ 60) {e : Ent} (he : e ∈ es) (h2 : ¬ okT e) : val es = 1 := by
  unfold val
  rw [if_neg (by omega), if_pos (fun h => h2 (h e he))]
theorem val_ord {es : List Ent} (h : es.length ≤ 60) (h3 : ¬ Ord es) : val es = 1 := by
  unfold val
  rw [if_neg (by omega), if_pos h3]
  split <;> rfl
theorem val_saw {es : List Ent} (h : es.length ≤ 60) (h2 : ∀ e ∈ es, okT e) (h3 : Ord es) {e : Ent} (he : e ∈ es) (h4 : wrong es e) : val es = 11 := by
  unfold val
  rw [if_neg (by omega), if_neg (fun h => h h2), if_neg (fun h => h h3), if_pos ⟨e, he, h4⟩]
theorem Ord_seq {es : List Ent} (h : Ord es) : ∀ e ∈ es, 1 ≤ e.2.1 ∧ e.2.1 ≤ es.length := by
  have : ∀ l : List Ent, ordR l → ∀ e ∈ l, 1 ≤ e.2.1 ∧ e.2.1 ≤ l.length := by
    intro l
    induction l with
    | nil => intro _ e he; cases he
    | cons x l ih =>
      intro ⟨h1, _, h3⟩ e he
      rcases List.mem_cons.1 he with rfl | he
      · have := clk_le l e.1
        simp only [List.length_cons]
        omega
      · have := ih h1 e he
        simp only [List.length_cons]
        omega
  intro e he
  have := this es.reverse h e (by simpa using he)
  simpa using this
/-- Whether an order goes on, if the last one is known. -/
theorem Ord_last {l : List Ent} {f e : Ent} (h : Ord (l ++ [f])) : Ord (l ++ [f] ++ [e]) ↔ f.1 ≤ e.1 ∧ e.2.1 = clk (l ++ [f]) e.1 + 1 := by
  rw [Ord_snoc]
  constructor
  · rintro ⟨_, h2, h3⟩
    exact ⟨h2 f (by simp), h3⟩
  · rintro ⟨h2, h3⟩
    refine ⟨h, fun g hg => ?_, h3⟩
    rcases List.mem_append.1 hg with hg | hg
    · exact Int.le_trans ((Ord_snoc.1 h).2.1 g hg) h2
    · rw [List.mem_singleton.1 hg]; exact h2
theorem clk_none {l : List Ent} {p : Int} (h : ∀ f ∈ l, f.1 < p) : clk l p = 0 := by
  unfold clk
  rw [List.length_eq_zero_iff, List.filter_eq_nil_iff]
  intro f hf
  have := h f hf
  simp; omega
end Go.Proofs.YtnlhllleipemlaaGreatDoor

namespace Go.Proofs.YtnlhllleipemlaaGreatDoor
open Go.RowKit Go.Sort

def keyLt (e f : Ent) : Prop := e.1 < f.1 ∨ (e.1 = f.1 ∧ e.2.1 < f.2.1)
instance (e f : Ent) : Decidable (keyLt e f) := by unfold keyLt; infer_instance
theorem keyLt_irrefl (e : Ent) : ¬ keyLt e e := by unfold keyLt; omega
theorem keyLt_trans {e f g : Ent} (h : keyLt e f) (k : keyLt f g) : keyLt e g := by unfold keyLt at *; omega
theorem keyLt_asymm {e f : Ent} (h : keyLt e f) : ¬ keyLt f e := by unfold keyLt at *; omega
theorem keyLt_total (e f : Ent) : keyLt e f ∨ (e.1 = f.1 ∧ e.2.1 = f.2.1) ∨ keyLt f e := by unfold keyLt; omega

theorem snoc_ind {α : Type} {P : List α → Prop} (h0 : P []) (h1 : ∀ l a, P l → P (l ++ [a])) (l : List α) : P l := by
  have : ∀ l : List α, P l.reverse := by
    intro l
    induction l with
    | nil => exact h0
    | cons a l ih => rw [List.reverse_cons]; exact h1 _ _ ih
  have h := this l.reverse
  rwa [List.reverse_reverse] at h

theorem Ord_num {l : List Ent} (h : Ord l) : ∀ e ∈ l, 1 ≤ e.2.1 ∧ e.2.1 ≤ clk l e.1 := by
  induction l using snoc_ind with
  | h0 => intro e he; cases he
  | h1 l a ih =>
    obtain ⟨h1, h2, h3⟩ := Ord_snoc.1 h
    intro e he
    rw [clk_snoc]
    rcases List.mem_append.1 he with he | he
    · have := ih h1 e he
      omega
    · rw [List.mem_singleton.1 he, if_pos rfl]
      omega
theorem Ord_all {l : List Ent} (h : Ord l) {s p : Int} (h1 : 1 ≤ s) (h2 : s ≤ clk l p) : ∃ f ∈ l, f.1 = p ∧ f.2.1 = s := by
  induction l using snoc_ind with
  | h0 => simp [clk] at h2; omega
  | h1 l a ih =>
    obtain ⟨k1, k2, k3⟩ := Ord_snoc.1 h
    rw [clk_snoc] at h2
    by_cases hle : s ≤ clk l p
    · obtain ⟨f, hf, hq⟩ := ih k1 hle
      exact ⟨f, by simp [hf], hq⟩
    · by_cases hp : a.1 = p
      · rw [if_pos hp] at h2
        subst hp
        exact ⟨a, by simp, rfl, by omega⟩
      · rw [if_neg hp] at h2
        omega
theorem Ord_sorted {l : List Ent} (h : Ord l) : l.Pairwise keyLt := by
  induction l using snoc_ind with
  | h0 => exact List.Pairwise.nil
  | h1 l a ih =>
    obtain ⟨k1, k2, k3⟩ := Ord_snoc.1 h
    rw [List.pairwise_append]
    refine ⟨ih k1, List.pairwise_singleton _ _, fun x hx y hy => ?_⟩
    rw [List.mem_singleton.1 hy]
    have := k2 x hx
    have h4 := (Ord_num k1 x hx).2
    unfold keyLt
    by_cases he : x.1 = a.1
    · rw [he] at h4; omega
    · omega
theorem Ord_of {l : List Ent} (hs : l.Pairwise keyLt) (h1 : ∀ e ∈ l, 1 ≤ e.2.1) (h2 : ∀ e ∈ l, 2 ≤ e.2.1 → ∃ f ∈ l, f.1 = e.1 ∧ f.2.1 = e.2.1 - 1) : Ord l := by
  induction l using snoc_ind with
  | h0 => exact Ord_nil
  | h1 l a ih =>
    obtain ⟨s1, s2, s3⟩ := List.pairwise_append.1 hs
    have s4 : ∀ x ∈ l, keyLt x a := fun x hx => s3 x hx a (by simp)
    have hl : Ord l := by
      refine ih s1 (fun e he => h1 e (by simp [he])) (fun e he h => ?_)
      obtain ⟨f, hf, f1, f2⟩ := h2 e (by simp [he]) h
      rcases List.mem_append.1 hf with hf | hf
      · exact ⟨f, hf, f1, f2⟩
      · rw [List.mem_singleton.1 hf] at f1 f2
        have := s4 e he
        unfold keyLt at this
        omega
    rw [Ord_snoc]
    refine ⟨hl, fun f hf => by have := s4 f hf; unfold keyLt at this; omega, ?_⟩
    have ha := h1 a (by simp)
    have up : (clk l a.1 : Int) < a.2.1 := by
      rcases Nat.eq_zero_or_pos (clk l a.1) with h0 | h0
      · omega
      · obtain ⟨f, hf, f1, f2⟩ := Ord_all hl (s := clk l a.1) (p := a.1) (by omega) (Int.le_refl _)
        have := s4 f hf
        unfold keyLt at this
        omega
    rcases (show a.2.1 = 1 ∨ 2 ≤ a.2.1 by omega) with h | h
    · omega
    · obtain ⟨f, hf, f1, f2⟩ := h2 a (by simp) h
      rcases List.mem_append.1 hf with hf | hf
      · have := (Ord_num hl f hf).2
        rw [f1] at this
        omega
      · rw [List.mem_singleton.1 hf] at f2
        omega
theorem sorted_nodup {l : List Ent} (h : l.Pairwise keyLt) : l.Nodup := by
  refine h.imp ?_
  intro a b h e
  subst e
  exact keyLt_irrefl a h
theorem sorted_inj {l : List Ent} (h : l.Pairwise keyLt) {e f : Ent} (he : e ∈ l) (hf : f ∈ l) (h1 : e.1 = f.1) (h2 : e.2.1 = f.2.1) : e = f := by
  induction l with
  | nil => cases he
  | cons a l ih =>
    obtain ⟨k1, k2⟩ := List.pairwise_cons.1 h
    rcases List.mem_cons.1 he with rfl | he' <;> rcases List.mem_cons.1 hf with rfl | hf'
    · rfl
    · have := k1 f hf'; unfold keyLt at this; omega
    · have := k1 e he'; unfold keyLt at this; omega
    · exact ih k2 he' hf'
theorem sorted_ext {a b : List Ent} (ha : a.Pairwise keyLt) (hb : b.Pairwise keyLt) (h : ∀ e, e ∈ a ↔ e ∈ b) : a = b := by
  have hp : a.Perm b := (List.perm_ext_iff_of_nodup (sorted_nodup ha) (sorted_nodup hb)).2 h
  refine List.Perm.eq_of_pairwise (fun x y _ _ h1 h2 => absurd h2 (keyLt_asymm h1)) ha hb hp
/-- What a sort leaves, where no two keys are equal. -/
theorem sorted_of_sort {a b : List Ent} (hp : b.Perm a) (hs : b.Pairwise fun x y => ¬ keyLt y x) (hn : a.Nodup) (hi : ∀ e ∈ a, ∀ f ∈ a, e.1 = f.1 → e.2.1 = f.2.1 → e = f) : b.Pairwise keyLt := by
  have hb : b.Nodup := hp.nodup_iff.2 hn
  have := List.Pairwise.and hs hb
  refine this.imp_of_mem ?_
  intro x y hx hy ⟨h1, h2⟩
  rcases keyLt_total x y with h | ⟨h, h'⟩ | h
  · exact h
  · exact absurd (hi x (hp.mem_iff.1 hx) y (hp.mem_iff.1 hy) h h') h2
  · exact absurd h h1
end Go.Proofs.YtnlhllleipemlaaGreatDoor

namespace Go.Proofs.YtnlhllleipemlaaGreatDoor
open Go.RowKit Go.Sort Go.Lib

def cmpI (a b : Int) : Int := if a < b then -1 else if b < a then 1 else 0
def or0 (l : List Int) : Int := (l.find? fun z => z != 0).getD 0
theorem isNaN_any (n : Int) (w : World) : Calls Tryz.prog 82 #[.int .i64 n] w fun e w' => e = .returned (.bool false) ∧ w = w' := by
  go_enter Tryz.func82, Tryz.ntmps82
  go_wp2
  go_ret
  exact ⟨by simp, rfl⟩
theorem cmpI_any (a b : Int) (w : World) : Calls Tryz.prog 50 #[.int .i64 a, .int .i64 b] w fun e w' => e = .returned (.int .i64 (cmpI a b)) ∧ w = w' := by
  go_enter Tryz.func50, Tryz.ntmps50
  go_wp2_with (go_at_call 82; refine (isNaN_any _ _).mono ?_; rintro e w' ⟨rfl, rfl⟩)
  all_goals go_ret
  all_goals exact ⟨ret_int (by unfold cmpI; split <;> (try split) <;> omega), rfl⟩
theorem or_any (A : Option Addr) (n c : Nat) (zs : List Int) (w : World) (hr : Reads w w.heap.size 1 A n (ints zs)) (hn : n ≤ 9223372036854775807) :
    Calls Tryz.prog 49 #[.slice A n c] w fun e w' => e = .returned (.int .i64 (or0 zs)) ∧ w = w' := by
  have hl := hr.1
  rw [ints_length] at hl
  have l1 : n ≤ zs.length := by omega
  have l2 : zs.length ≤ n := by omega
  clear hl
  go_enter Tryz.func49, Tryz.ntmps49
  go_wp2
  go_loop [8] (fun i => ∃ k : Nat, k ≤ n ∧ i = .int .i64 k ∧ or0 zs = or0 (zs.drop k)) (fun i => n - (intOf i).toNat)
  case atStart => exact ⟨0, by omega, rfl, rfl⟩
  case round =>
    obtain ⟨k, hk, rfl, hno0⟩ := hrel
    have hno := Lib.hid hno0
    clear hno0
    by_cases hlt : k < n
    · obtain ⟨ad, z, e1, hbk, hx0, c0⟩ := dsat hr (k := k) (by omega)
      have hx := Lib.hid hx0
      clear hx0
      have hd : zs.drop k = z :: zs.drop (k + 1) := by
        have hlt' : k < zs.length := by omega
        rw [List.drop_eq_getElem_cons hlt']
        have := hx.out
        rw [List.getElem?_eq_getElem hlt'] at this
        rw [Option.some.inj this]
      have hD := Lib.hid hd
      clear hd
      by_cases hz : z = 0
      · subst hz
        go_wp2
        go_round
        case rel => exact ⟨k + 1, by omega, by go_num, by rw [hno.out, hD.out]; simp [or0]⟩
        case measure => simp [intOf]; omega
      · have hz1 : (z != 0) = true := by simpa using hz
        have hf := Lib.hid (show or0 zs = z by rw [hno.out, hD.out]; simp [or0, hz])
        go_wp2
        go_ret
        exact ⟨ret_int hf.out.symm, rfl⟩
    · have hf := Lib.hid (show or0 zs = 0 by rw [hno.out, List.drop_eq_nil_of_le (by omega)]; rfl)
      go_wp2
      go_ret
      exact ⟨ret_int hf.out.symm, rfl⟩


def cmpK (a b : Ent) : Int := or0 [cmpI a.1 b.1, cmpI a.2.1 b.2.1]
theorem cmpK_neg (x y : Ent) : cmpK x y < 0 ↔ keyLt x y := by
  unfold cmpK keyLt or0 cmpI
  by_cases h1 : x.1 < y.1
  · simp [h1]
  · by_cases h2 : y.1 < x.1
    · simp [h1, h2]; omega
    · have h3 : x.1 = y.1 := by omega
      by_cases h4 : x.2.1 < y.2.1
      · simp [h3, h4]
      · by_cases h5 : y.2.1 < x.2.1
        · simp [h3, h4, h5]
        · simp [h3, h4, h5]
theorem cmpK_grow (a b : Ent) (w : World) :
    Calls Tryz.prog 25 #[eval_ a, eval_ b] w fun r w' => r = .returned (.int .i64 (cmpK a b)) ∧ ∃ q os', w' = grow (w.drewN q) os' := by
  go_enter Tryz.func25, Tryz.ntmps25
  dsimp only [eval_]
  go_wp2_with fail
  refine wp_gen (fun w1 => Box w1 w.heap.size #[.int .i64 a.1, .int .i64 a.2.1, .int .i64 a.2.2.1.1, .int .i64 a.2.2.1.2.1, .int .i64 a.2.2.1.2.2, .string a.2.2.2] ∧ Box w1 (w.heap.size + 1) #[.int .i64 b.1, .int .i64 b.2.1, .int .i64 b.2.2.1.1, .int .i64 b.2.2.1.2.1, .int .i64 b.2.2.1.2.2, .string b.2.2.2] ∧ Hid (∃ os, w1 = grow w os)) ⟨(Box.new _ _ _).alloc _, Box.new2 _ _ _ _ _, Lib.hid ⟨_, by rw [alloc_eq_grow, alloc_eq_grow, grow_grow]⟩⟩ ?_
  rintro w1 ⟨b0, b1, hg⟩
  have c0 := b0.at
  have c1 := b1.at
  go_region_held3 (fun w' => (∀ i, w'.cell? ⟨w.heap.size, i, none⟩ = (#[.int .i64 a.1, .int .i64 a.2.1, .int .i64 a.2.2.1.1, .int .i64 a.2.2.1.2.1, .int .i64 a.2.2.1.2.2, .string a.2.2.2] : Array Value)[i]?) ∧ (∀ i, w'.cell? ⟨w.heap.size + 1, i, none⟩ = (#[.int .i64 b.1, .int .i64 b.2.1, .int .i64 b.2.2.1.1, .int .i64 b.2.2.1.2.1, .int .i64 b.2.2.1.2.2, .string b.2.2.2] : Array Value)[i]?)) (first | exact ⟨c0, c1⟩ | exact ⟨(b0.alloc _).at, (b1.alloc _).at⟩)
    (first | (go_at_call 50; refine (cmpI_any _ _ _).mono ?_; rintro e w' ⟨rfl, rfl⟩) | (go_at_call 49; refine (or_any _ 2 2 [cmpI a.1 b.1, cmpI a.2.1 b.2.1] _ ((reads_new w1 (ints [cmpI a.1 b.1, cmpI a.2.1 b.2.1]) 3 1 2 rfl).drew) (by omega)).mono ?_; rintro e w' ⟨rfl, rfl⟩))
  go_wp2
  go_ret
  refine ⟨rfl, 1, ?_⟩
  obtain ⟨os, rfl⟩ := hg.out
  exact ⟨_, by rw [alloc_eq_grow, grow_grow, drew_grow]; rfl⟩
theorem below_drewGrow (w : World) (q : Nat) (os : Array Obj) : Below w.heap.size w (grow (w.drewN q) os) :=
  ⟨rfl, rfl, rfl, by first | (simp [grow]; done) | (simp [grow]; omega), fun i hi => by
    show ((w.drewN q).heap ++ os)[i]? = _
    rw [Array.getElem?_append_left (by show i < w.heap.size; omega)]
    rfl⟩
theorem cmpK_any (a b : Ent) (w : World) : Calls Tryz.prog 25 #[eval_ a, eval_ b] w fun r w' => r = .returned (.int .i64 (cmpK a b)) ∧ Below w.heap.size w w' :=
  (cmpK_grow a b w).mono fun r w' ⟨h1, q, os, hw⟩ => ⟨h1, by rw [hw]; exact below_drewGrow w q os⟩
theorem ltOf_cmpK (x y : Ent) : ltOf cmpK x y = decide (keyLt x y) := by
  unfold ltOf
  rw [decide_eq_decide]
  exact cmpK_neg x y
theorem swoK : SWO (ltOf cmpK) where
  irrefl x := by rw [ltOf_cmpK]; simp [keyLt_irrefl]
  trans x y z h1 h2 := by rw [ltOf_cmpK] at *; simp at *; exact keyLt_trans h1 h2
  ntrans x y z h1 h2 := by
    rw [ltOf_cmpK] at *
    simp only [decide_eq_false_iff_not] at *
    unfold keyLt at *
    omega
theorem isAgg53 : ∀ w, (isAgg 48).run Tryz.prog w = .ok true w := fun _ => by kernel_rfl
theorem sizeOf53 : ∀ w, (Go.sizeOf 48).run Tryz.prog w = .ok 6 w := fun _ => by kernel_rfl
theorem info53b : (Tryz.prog.info? 48).map (fun i => (i.zero, i.size, i.bytes)) = some (some (.agg #[.int .i64 0, .int .i64 0, .int .i64 0, .int .i64 0, .int .i64 0, .string ⟨#[]⟩]), 6, 56) := by kernel_rfl
set_option maxRecDepth 4000 in
theorem clone_any (A : Option Addr) (n c : Nat) (es : List Ent) (w : World) (hl : Reads w w.heap.size 6 A n (ents es)) (hn : n ≤ 1000000) :
    Calls Tryz.prog 23 #[.slice A n c] w (RetRow 48 6 n (ents es) w) := by
  have HL := Lib.hid hl
  cases A with
  | none =>
    have h0 : n = 0 := by
      rcases Nat.eq_zero_or_pos n with h | h
      · exact h
      · obtain ⟨p, hp, _⟩ := hl.look h; cases hp
    subst h0
    clear hl
    have N0 := fun w => Lib.run_eql_slice_nil (P := Tryz.prog) w 23 48 none 0 c 0 0 Tryz.underlying23
    go_enter Tryz.func23, Tryz.ntmps23
    go_wp2_with fail
    go_ret
    have : ents es = [] := List.eq_nil_of_length_eq_zero (by have := HL.out.len; simpa using this)
    exact ⟨none, 0, rfl, by rw [this]; exact World.ownsRow_nil _ _ _ _, Below.refl _ _⟩
  | some ad =>
    clear hl
    have hlen : n ≤ 1000000000 := by omega
    have N0 := fun w => Lib.run_eql_slice_nil (P := Tryz.prog) w 23 48 (some ad) n c 0 0 Tryz.underlying23
    go_enter Tryz.func23, Tryz.ntmps23
    go_wp2_with (at_builtin; refine wpList_copyR rfl _ _ 23 48 rfl Tryz.underlying23 info53b rfl (by omega) (by omega) w rfl rfl HL.out (ents_one _) hlen ?_; intro B d w1 hr1 hb1; have HR1 := Lib.hid hr1; have HB1 := Lib.hid hb1; clear hr1 hb1)
    go_ret
    exact ⟨B, d, rfl, HR1.out, HB1.out⟩
theorem sort_none (A : Option Addr) (c : Nat) (w : World) :
    Calls Tryz.prog 24 #[.slice A 0 c, .func (.func 25) #[] #[]] w fun r w' => r = .returned (.tuple #[]) ∧ w' = w :=
  AnyF.slices_SortFunc_none sortLay A c _ w
theorem sort_any {bl : Nat} (A : Option Addr) (n c : Nat) (es : List Ent) (w : World) (h : w.ownsRow bl 48 6 (.slice A n c) n (ents es)) (hn : n ≤ 1000000) :
    Calls Tryz.prog 24 #[.slice A n c, .func (.func 25) #[] #[]] w fun r w' => r = .returned (.tuple #[]) ∧ ∃ es' : List Ent, es'.Perm es ∧ (es'.Pairwise fun x y => ¬ keyLt y x) ∧ w'.ownsRow bl 48 6 (.slice A n c) n (ents es') ∧ w.grownBy w' (Value.slice A n c).ownBlock := by
  have hl := h.1
  rw [ents_length] at hl
  have hle : es.length = n := by omega
  rcases h.2 with ⟨hv, h0⟩ | ⟨g, cap, cur, hv, hb, hh, hnc, hcm, hcs, hct⟩
  · injection hv with e1 e2 e3
    subst e1 h0 e3
    obtain rfl : es = [] := List.eq_nil_of_length_eq_zero hle
    exact (sort_none none 0 w).mono fun r w' ⟨h1, h2⟩ => ⟨h1, [], List.Perm.refl _, List.Pairwise.nil, by rw [h2]; exact h, by rw [h2]; exact ⟨rfl, rfl, rfl, Nat.le_refl _, fun _ _ _ => rfl⟩⟩
  · injection hv with e1 e2 e3
    subst e1 e3
    have hH : HoldsK ecells 6 w g 0 es.toArray := holdsK_of_row (enc := ecells) (k := 6) (fun _ => rfl) hh (by rw [hle]; exact hct)
    have hg : g < w.heap.size := (Array.getElem?_eq_some_iff.1 hh).1
    have hs := AnyQ.slices_SortFunc sortLay 6 isAgg53 sizeOf53 ecells (fun _ => rfl) (fun x v hv => by simp [ecells] at hv; rcases hv with rfl | rfl | rfl | rfl | rfl | rfl <;> rfl) cmpK swoK 25 #[] g 0 c es.toArray w
      (enters_of Tryz.func25 (by kernel_rfl) rfl) (fun _ _ _ _ x y => cmpK_grow x y _) hH hg (by simp; omega)
    have hsz : es.toArray.size = n := by simp [hle]
    rw [hsz] at hs
    refine hs.mono fun r w' ⟨h1, d', m, os, hp, hso, hw⟩ => ⟨h1, d'.toList, ?_, ?_, ?_, ?_⟩
    · obtain ⟨p1, _, p3⟩ := hp
      rw [show d'.extract 0 n = d' by rw [← hsz, ← p1]; simp, show es.toArray.extract 0 n = es.toArray by rw [← hsz]; simp] at p3
      simpa using p3
    · have q1 : d'.size = n := by rw [hp.1, hsz]
      rw [List.pairwise_iff_getElem]
      intro i j hi hj hij
      have := hso i j (Nat.zero_le _) hij (by simpa [q1] using hj)
      rw [ltOf_cmpK, decide_eq_false_iff_not] at this
      simp only [Array.length_toList] at hi hj
      simpa [getElem!_pos, hi, hj] using this
    · rw [hw]
      have := ownsRow_sortedK (enc := ecells) (k := 6) (fun _ => rfl) (w := w) (base := bl) (g := g) (cap := c) (m := m) (e := 48) (os := os) (l := es) (t := d'.toList) (by rw [Array.length_toList, hp.1]; simp) hb hh (by omega) hcm hcs
      rw [hle] at this
      exact this
    · rw [hw]; exact grownBy_sortedK _
end Go.Proofs.YtnlhllleipemlaaGreatDoor

namespace Go.Proofs.YtnlhllleipemlaaGreatDoor
open Go.RowKit Go.Sort

theorem ix35v (x0 x1 x2 : Value) : (∀ w, (Instr.index 46 (.agg #[x0, x1, x2]) (.int .i64 0)).run Tryz.prog w = .ok x0 w) ∧ (∀ w, (Instr.index 46 (.agg #[x0, x1, x2]) (.int .i64 1)).run Tryz.prog w = .ok x1 w) ∧ (∀ w, (Instr.index 46 (.agg #[x0, x1, x2]) (.int .i64 2)).run Tryz.prog w = .ok x2 w) :=
  ⟨fun _ => by kernel_rfl, fun _ => by kernel_rfl, fun _ => by kernel_rfl⟩
/-- The last entry of a list that is in order: place and number. -/
structure LastP (l : List Ent) (P L : Int) : Prop where
  ord : Ord l
  le : ∀ f ∈ l, f.1 ≤ P
  has : P = 0 ∨ ∃ f ∈ l, f.1 = P
  num : L = (clk l P : Nat)
  p0 : 0 ≤ P
section
variable {l : List Ent} {P L : Int} {e : Ent}
theorem LastP.nil : LastP [] 0 0 := ⟨Ord_nil, fun f hf => by simp at hf, .inl rfl, by simp [clk], by omega⟩
theorem LastP.up (h : LastP l P L) (h1 : P < e.1) (h2 : e.2.1 = 1) : LastP (l ++ [e]) e.1 e.2.1 := by
  have h0 : clk l e.1 = 0 := clk_none fun f hf => by have := h.le f hf; omega
  refine ⟨Ord_snoc.2 ⟨h.ord, fun f hf => by have := h.le f hf; omega, by rw [h0]; simpa using h2⟩, fun f hf => ?_, .inr ⟨e, by simp, rfl⟩, by rw [clk_snoc, if_pos rfl, h0]; simpa using h2, by have := h.p0; omega⟩
  rcases List.mem_append.1 hf with hf | hf
  · have := h.le f hf; omega
  · rw [List.mem_singleton.1 hf]; exact Int.le_refl _
theorem LastP.on (h : LastP l P L) (h0 : ¬ P < e.1) (h1 : ¬ e.1 < P) (h2 : e.2.1 = L + 1) : LastP (l ++ [e]) P e.2.1 := by
  have he : e.1 = P := by omega
  have hn := h.num
  refine ⟨Ord_snoc.2 ⟨h.ord, fun f hf => by have := h.le f hf; omega, by rw [he]; omega⟩, fun f hf => ?_, .inr ⟨e, by simp, he⟩, by rw [clk_snoc, if_pos he]; omega, h.p0⟩
  rcases List.mem_append.1 hf with hf | hf
  · exact h.le f hf
  · rw [List.mem_singleton.1 hf]; omega
theorem LastP.no1 (h : LastP l P L) (h1 : P < e.1) (h2 : e.2.1 ≠ 1) : ¬ Ord (l ++ [e]) := fun ho => by
  have h0 : clk l e.1 = 0 := clk_none fun f hf => by have := h.le f hf; omega
  have := (Ord_snoc.1 ho).2.2
  rw [h0] at this
  exact h2 (by simpa using this)
theorem LastP.no2 (h : LastP l P L) (h0 : 0 ≤ e.1) (h1 : e.1 < P) : ¬ Ord (l ++ [e]) := fun ho => by
  rcases h.has with h2 | ⟨f, hf, h2⟩
  · omega
  · have := (Ord_snoc.1 ho).2.1 f hf
    omega
theorem LastP.no3 (h : LastP l P L) (h0 : ¬ P < e.1) (h1 : ¬ e.1 < P) (h2 : e.2.1 ≠ L + 1) : ¬ Ord (l ++ [e]) := fun ho => by
  have he : e.1 = P := by omega
  have := (Ord_snoc.1 ho).2.2
  rw [he, ← h.num] at this
  exact h2 this
end
theorem val_part {es : List Ent} {k : Nat} {e : Ent} (hl : es.length ≤ 60) (hT : es.take (k + 1) = es.take k ++ [e]) (h : ¬ Ord (es.take k ++ [e])) : val es = 1 :=
  val_ord hl fun ho => h (hT ▸ Ord_take ho (k + 1))
theorem sn_idx (e : Ent) {p : Nat} (hp : p < 3) (w : World) : (Instr.index 46 (.agg #[.int .i64 e.2.2.1.1, .int .i64 e.2.2.1.2.1, .int .i64 e.2.2.1.2.2]) (.int .i64 (p : Int))).run Tryz.prog w = .ok (.int .i64 (e.sn p)) w := by
  rcases (show p = 0 ∨ p = 1 ∨ p = 2 by omega) with rfl | rfl | rfl
  · exact (ix35v _ _ _).1 w
  · exact (ix35v _ _ _).2.1 w
  · exact (ix35v _ _ _).2.2 w
theorem ix35z (b k : Nat) (h : k < 3) (w : World) : (Instr.indexAt 46 (.pointer (some ⟨b, 0, none⟩)) (.int .i64 (k : Int))).run Tryz.prog w = .ok (.pointer (some ⟨b, k, none⟩)) w := by
  have := ix35 b 0 k h w
  rwa [Nat.zero_add] at this
theorem clk_cell {w : World} {b : Nat} {es : List Ent} (h : Box w b #[.int .i64 (clk es 0 : Nat), .int .i64 (clk es 1 : Nat), .int .i64 (clk es 2 : Nat)]) {p : Nat} (hp : p < 3) : w.cell? ⟨b, p, none⟩ = some (.int .i64 (clk es p : Nat)) := by
  rw [h.at p]
  rcases (show p = 0 ∨ p = 1 ∨ p = 2 by omega) with rfl | rfl | rfl <;> rfl
theorem lowE_iff {e f : Ent} : lowE e f ↔ e.2.2.1.1 < f.2.2.1.1 ∨ e.2.2.1.2.1 < f.2.2.1.2.1 ∨ e.2.2.1.2.2 < f.2.2.1.2.2 := by
  unfold lowE
  constructor
  · rintro ⟨p, hp, h⟩
    rcases (show p = 0 ∨ p = 1 ∨ p = 2 by omega) with rfl | rfl | rfl
    · exact .inl h
    · exact .inr (.inl h)
    · exact .inr (.inr h)
  · rintro (h | h | h)
    · exact ⟨0, by omega, h⟩
    · exact ⟨1, by omega, h⟩
    · exact ⟨2, by omega, h⟩
/-- Short texts. -/
def shortT (es : List Ent) : Prop := ∀ e ∈ es, e.2.2.2.size ≤ 100000
set_option maxRecDepth 100000 in
set_option maxHeartbeats 4000000 in
theorem validate_any (A : Option Addr) (n c : Nat) (es : List Ent) (w : World) (hl : Reads w w.heap.size 6 A n (ents es)) (hn : n ≤ 1000000) (ht : shortT es) :
    Calls Tryz.prog 17 #[.slice A n c] w fun r w' => r = .returned (.int .i64 (val es)) ∧ Below w.heap.size w w' := by
  have hlen := hl.1
  rw [ents_length] at hlen
  have l1 : n ≤ es.length := by omega
  have l2 : es.length ≤ n := by omega
  have HL := Lib.hid hl
  have HS := Lib.hid ht
  clear hl hlen ht
  go_enter Tryz.func17, Tryz.ntmps17
  by_cases hbig : 60 < n
  · have HF := Lib.hid (val_large (show 60 < es.length by omega))
    go_wp2_with fail
    go_ret
    exact ⟨ret_int HF.out.symm, Below.refl _ _⟩
  have hsm : es.length ≤ 60 := by omega
  go_wp2_with fail
  go_loopw [21] (fun i wr => ∃ k : Nat, k ≤ n ∧ i = .int .i64 k ∧ (∀ e ∈ es.take k, okT e) ∧ Below w.heap.size w wr) (fun i _ => n - (intOf i).toNat)
  case atStart => exact ⟨0, by omega, rfl, fun e he => by simp at he, Below.refl _ _⟩
  case round =>
    obtain ⟨k, hk, rfl, hok, hbw⟩ := hrel
    have HB := Lib.hid hbw
    have HK := Lib.hid hok
    clear hok
    by_cases hlt : k < n
    · obtain ⟨ad, e, e1, hbk, he, d0, d1, d2, d3, d4, d5⟩ := eat (HL.out.below hbw) (k := k) (by omega)
      have X := fun w => ix22 (c := c) e1 hlt w
      have HT := Lib.hid (take_succ_of he)
      have HM := Lib.hid (List.mem_of_getElem? he)
      have htx : e.2.2.2.size ≤ 1000000 := by have := HS.out e HM.out; omega
      clear hbw he e1
      by_cases hko : okT e
      · have HO := Lib.hid hko
        obtain ⟨p0, p1, p2⟩ := hko
        have H2 := Lib.hid p2
        clear p2
        go_wp2_with fail
        with_reducible refine (rightText_any e.2.2.2 _ htx).mono ?_
        rintro _ w1 ⟨rfl, hb1⟩
        have HB1 := Lib.hid (below_trans' HB.out (below1 _ hb1))
        rw [H2.out]
        clear hb1 d0 d1 d2 d3 d4 d5 X
        go_wp2_with fail
        go_roundw
        case rel =>
          refine ⟨k + 1, by omega, by go_num, fun f hf => ?_, HB1.out⟩
          rw [HT.out] at hf
          rcases List.mem_append.1 hf with hf | hf
          · exact HK.out f hf
          · rw [List.mem_singleton.1 hf]; exact HO.out
        case measure => simp [intOf]; omega
      · have HF := Lib.hid (val_txt hsm HM.out hko)
        have hc : e.1 < 0 ∨ (0 ≤ e.1 ∧ (2 < e.1 ∨ (e.1 ≤ 2 ∧ right e.2.2.2 = false))) := by
          rcases Int.lt_or_le e.1 0 with h1 | h1
          · exact .inl h1
          rcases Int.lt_or_le 2 e.1 with h2 | h2
          · exact .inr ⟨h1, .inl h2⟩
          refine .inr ⟨h1, .inr ⟨h2, ?_⟩⟩
          cases hr : right e.2.2.2
          · rfl
          · exact (hko ⟨h1, h2, hr⟩).elim
        clear hko
        rcases hc with h1 | ⟨h1, h2 | ⟨h2, h3⟩⟩
        · go_wp2_with fail
          go_ret
          exact ⟨ret_int HF.out.symm, below_trans' HB.out (belowA _ _)⟩
        · go_wp2_with fail
          go_ret
          exact ⟨ret_int HF.out.symm, below_trans' HB.out (belowA _ _)⟩
        · have H3 := Lib.hid h3
          clear h3
          go_wp2_with fail
          with_reducible refine (rightText_any e.2.2.2 _ htx).mono ?_
          rintro _ w1 ⟨rfl, hb1⟩
          have HB1 := Lib.hid (below_trans' HB.out (below1 _ hb1))
          rw [H3.out]
          clear hb1 d0 d1 d2 d3 d4 d5 X
          go_wp2_with fail
          go_ret
          exact ⟨ret_int HF.out.symm, HB1.out⟩
    · have HTX := Lib.hid (show ∀ e ∈ es, okT e by have := HK.out; rwa [List.take_of_length_le (by omega)] at this)
      clear HK hbw
      refine gen_at (fun w1 => Below w.heap.size w w1) HB.out ?_
      clear HB
      rintro w1 hw1
      have HB := Lib.hid hw1
      clear hw1
      go_wp2_with fail
      go_loopw [5, 6, 42] (fun a b i wr => ∃ (k : Nat) (L P : Int), k ≤ n ∧ i = .int .i64 k ∧ a = .int .i64 L ∧ b = .int .i64 P ∧ LastP (es.take k) P L ∧ Below w1.heap.size w1 wr) (fun _ _ i _ => n - (intOf i).toNat)
      case atStart => exact ⟨0, 0, 0, by omega, rfl, rfl, rfl, LastP.nil, Below.refl _ _⟩
      case round =>
        obtain ⟨k, L, P, hk, rfl, rfl, rfl, hlast, hbw⟩ := hrel
        have HBW := Lib.hid (below_trans' HB.out hbw)
        have HBW1 := Lib.hid hbw
        have HLP := Lib.hid hlast
        have hL := hlast.num
        have kl := List.length_take_le k es
        have cl := clk_le (es.take k) P
        have L0 : 0 ≤ L := by omega
        have L1 : L ≤ 60 := by omega
        clear hbw hlast hL kl cl
        by_cases hlt : k < n
        · obtain ⟨ad, e, e1, hbk, he, d0, d1, d2, d3, d4, d5⟩ := eat (HL.out.below HBW.out) (k := k) (by omega)
          have X := fun w => ix22 (c := c) e1 hlt w
          have HT := Lib.hid (take_succ_of he)
          have HM := Lib.hid (List.mem_of_getElem? he)
          obtain ⟨p0, p1, -⟩ := HTX.out e HM.out
          clear he e1
          have c0 := fun o => (Box.new wr #[.int .i64 e.1, .int .i64 e.2.1, .int .i64 e.2.2.1.1, .int .i64 e.2.2.1.2.1, .int .i64 e.2.2.1.2.2, .string e.2.2.2] o).at
          by_cases hgt : P < e.1
          · by_cases hq : e.2.1 = 1
            · have g : (e.2.1 != 1) = false := by rw [hq]; rfl
              have HQ := Lib.hid hq
              clear hq
              go_wp2_with fail
              go_quiet (fail)
              go_wp2_with fail
              go_roundw
              case rel =>
                exact ⟨k + 1, e.2.1, e.1, by omega, by go_num, rfl, rfl, by rw [HT.out]; exact HLP.out.up hgt HQ.out, below_drewN' (below_trans' HBW1.out (belowA _ _)) _⟩
              case measure => simp [intOf]; omega
            · have g : (e.2.1 != 1) = true := by simpa using hq
              have HF := Lib.hid (val_part hsm HT.out (HLP.out.no1 hgt hq))
              clear hq
              go_wp2_with fail
              go_quiet (fail)
              go_wp2_with fail
              go_ret
              exact ⟨ret_int HF.out.symm, below_drewN' (below_trans' HBW.out (belowA _ _)) _⟩
          · by_cases hlp : e.1 < P
            · have HF := Lib.hid (val_part hsm HT.out (HLP.out.no2 p0 hlp))
              go_wp2_with fail
              go_ret
              exact ⟨ret_int HF.out.symm, below_trans' HBW.out (belowA _ _)⟩
            · by_cases hq : e.2.1 = L + 1
              · have g : (e.2.1 != L + 1) = false := by rw [hq]; simp
                have HQ := Lib.hid hq
                clear hq
                go_wp2_with fail
                go_roundw
                case rel =>
                  exact ⟨k + 1, e.2.1, P, by omega, by go_num, rfl, rfl, by rw [HT.out]; exact HLP.out.on hgt hlp HQ.out, below_trans' HBW1.out (belowA _ _)⟩
                case measure => simp [intOf]; omega
              · have g : (e.2.1 != L + 1) = true := by simpa using hq
                have HF := Lib.hid (val_part hsm HT.out (HLP.out.no3 hgt hlp hq))
                clear hq
                go_wp2_with fail
                go_ret
                exact ⟨ret_int HF.out.symm, below_trans' HBW.out (belowA _ _)⟩
        · have HORD := Lib.hid (show Ord es by have := HLP.out.ord; rwa [List.take_of_length_le (by omega)] at this)
          have HSEQ := Lib.hid (Ord_seq HORD.out)
          have HPL : Hid (∀ e ∈ es, 0 ≤ e.1 ∧ e.1 ≤ 2) := Lib.hid fun e he => by obtain ⟨q0, q1, _⟩ := HTX.out e he; exact ⟨q0, q1⟩
          clear HLP L0 L1
          go_wp2_with fail
          with_reducible refine (clock_any A n c es _ (HL.out.on HBW.out) hn HPL.out).mono ?_
          rintro _ w2 ⟨rfl, hb2⟩
          go_wp2_with fail
          refine gen_at (fun W => Box W w2.heap.size #[.int .i64 (clk es 0 : Nat), .int .i64 (clk es 1 : Nat), .int .i64 (clk es 2 : Nat)] ∧ Below w.heap.size w W) ⟨Box.new _ _ 46, below_trans' (below_trans' HBW.out hb2) (belowA _ _)⟩ ?_
          rintro w3 ⟨bk0, hb3⟩
          have HW3 := Lib.hid hb3
          generalize w2.heap.size = bk at bk0 ⊢
          clear hb2 hb3 HBW HB
          go_loopw [70] (fun i wr => ∃ k : Nat, k ≤ n ∧ i = .int .i64 k ∧ (∀ e ∈ es.take k, ¬ wrong es e) ∧ Box wr bk #[.int .i64 (clk es 0 : Nat), .int .i64 (clk es 1 : Nat), .int .i64 (clk es 2 : Nat)] ∧ Below w.heap.size w wr) (fun i _ => n - (intOf i).toNat)
          case atStart => exact ⟨0, by omega, rfl, fun e he => by simp at he, bk0, HW3.out⟩
          case round =>
            clear bk0 HW3
            obtain ⟨k, hk, rfl, hno, bk0, hbw⟩ := hrel
            have HNO := Lib.hid hno
            have HBW := Lib.hid hbw
            clear hno hbw
            by_cases hlt : k < n
            · obtain ⟨ad, e, e1, hbk, he, d0, d1, d2, d3, d4, d5⟩ := eat (HL.out.below HBW.out) (k := k) (by omega)
              have X := fun w => ix22 (c := c) e1 hlt w
              have HT := Lib.hid (take_succ_of he)
              have HM := Lib.hid (List.mem_of_getElem? he)
              obtain ⟨p0, p1, -⟩ := HTX.out e HM.out
              obtain ⟨s0, s1⟩ := HSEQ.out e HM.out
              clear he e1
              have c0 := fun o => (Box.new wr #[.int .i64 e.1, .int .i64 e.2.1, .int .i64 e.2.2.1.1, .int .i64 e.2.2.1.2.1, .int .i64 e.2.2.1.2.2, .string e.2.2.2] o).at
              go_wp2_with fail
              refine gen_at (fun W => Box W wr.heap.size #[.int .i64 e.1, .int .i64 e.2.1, .int .i64 e.2.2.1.1, .int .i64 e.2.2.1.2.1, .int .i64 e.2.2.1.2.2, .string e.2.2.2] ∧ Box W bk #[.int .i64 (clk es 0 : Nat), .int .i64 (clk es 1 : Nat), .int .i64 (clk es 2 : Nat)] ∧ Below w.heap.size w W) ⟨Box.new _ _ _, bk0.alloc _, below_trans' HBW.out (belowA _ _)⟩ ?_
              clear X d0 d1 d2 d3 d4 d5 c0
              rintro w4 ⟨bx, bk1, hb4⟩
              have HW4 := Lib.hid hb4
              generalize wr.heap.size = bX at bx ⊢
              clear hb4
              have X35 := fun (p : Nat) (hp : p < 3) w => sn_idx e hp w
              have HX35 := Lib.hid X35
              clear X35
              have cx := bx.at
              go_loop [76] (fun i => ∃ p : Nat, p ≤ 3 ∧ i = .int .i64 p ∧ ∀ q, q < p → ¬ badP es e q) (fun i => 3 - (intOf i).toNat)
              case atStart => exact ⟨0, by omega, rfl, fun q hq => by omega⟩
              case round =>
                obtain ⟨p, hp, rfl, hnb⟩ := hrel
                have HNB := Lib.hid hnb
                clear hnb
                by_cases hp3 : p < 3
                · have x35 := HX35.out p hp3
                  have Y := fun w => ix35z bk p hp3 w
                  have ck := clk_cell bk1 hp3
                  by_cases hb : badP es e p
                  · have HF := Lib.hid (val_saw hsm HTX.out HORD.out HM.out (.inl ⟨p, hp3, hb⟩))
                    have hc : ((p : Int) = e.1 ∧ e.sn p ≠ e.2.1 - 1) ∨ (¬ ((p : Int) = e.1 ∧ e.sn p ≠ e.2.1 - 1) ∧ (e.sn p < 0 ∨ (0 ≤ e.sn p ∧ (clk es p : Int) < e.sn p))) := by unfold badP at hb; omega
                    clear hb
                    generalize e.sn p = sn at hc x35
                    generalize clk es p = cp at hc ck
                    rcases hc with ⟨h1, h2⟩ | ⟨h1, h2 | ⟨h2, h3⟩⟩
                    · have g1 : ((p : Int) == e.1) = true := by simpa using h1
                      have g2 : (sn != e.2.1 - 1) = true := by simpa using h2
                      clear h1 h2
                      go_wp2_with fail
                      go_ret
                      exact ⟨ret_int HF.out.symm, HW4.out⟩
                    · by_cases hq : (p : Int) = e.1
                      · have g1 : ((p : Int) == e.1) = true := by simpa using hq
                        have g2 : (sn != e.2.1 - 1) = false := by simp; omega
                        clear h1 hq
                        go_wp2_with fail
                        go_ret
                        exact ⟨ret_int HF.out.symm, HW4.out⟩
                      · have g1 : ((p : Int) == e.1) = false := by simpa using hq
                        clear h1 hq
                        go_wp2_with fail
                        go_ret
                        exact ⟨ret_int HF.out.symm, HW4.out⟩
                    · by_cases hq : (p : Int) = e.1
                      · have g1 : ((p : Int) == e.1) = true := by simpa using hq
                        have g2 : (sn != e.2.1 - 1) = false := by simp; omega
                        clear h1 hq
                        go_wp2_with fail
                        go_ret
                        exact ⟨ret_int HF.out.symm, HW4.out⟩
                      · have g1 : ((p : Int) == e.1) = false := by simpa using hq
                        clear h1 hq
                        go_wp2_with fail
                        go_ret
                        exact ⟨ret_int HF.out.symm, HW4.out⟩
                  · have HNB2 : Hid (∀ q, q < p + 1 → ¬ badP es e q) := Lib.hid fun q hq => by
                      rcases Nat.lt_or_ge q p with h | h
                      · exact HNB.out q h
                      · obtain rfl : q = p := by omega
                        exact hb
                    have hc : ((p : Int) = e.1 → e.sn p = e.2.1 - 1) ∧ 0 ≤ e.sn p ∧ e.sn p ≤ (clk es p : Int) := by unfold badP at hb; omega
                    clear hb
                    obtain ⟨h1, h2, h3⟩ := hc
                    generalize e.sn p = sn at h1 h2 h3 x35
                    generalize clk es p = cp at h3 ck
                    by_cases hq : (p : Int) = e.1
                    · have g1 : ((p : Int) == e.1) = true := by simpa using hq
                      have g2 : (sn != e.2.1 - 1) = false := by simp; omega
                      clear h1 hq
                      go_wp2_with fail
                      go_round
                      case rel => exact ⟨p + 1, by omega, by go_num, HNB2.out⟩
                      case measure => simp [intOf]; omega
                    · have g1 : ((p : Int) == e.1) = false := by simpa using hq
                      clear h1 hq
                      go_wp2_with fail
                      go_round
                      case rel => exact ⟨p + 1, by omega, by go_num, HNB2.out⟩
                      case measure => simp [intOf]; omega
                · have HNB3 : Hid (∀ q, q < 3 → ¬ badP es e q) := Lib.hid fun q hq => HNB.out q (by omega)
                  clear HNB HX35 cx
                  go_wp2_with fail
                  go_loopw [105] (fun i wr => ∃ j : Nat, j ≤ n ∧ i = .int .i64 j ∧ (∀ f ∈ es.take j, ¬ (sawE e f = true ∧ lowE e f)) ∧ Box wr bX #[.int .i64 e.1, .int .i64 e.2.1, .int .i64 e.2.2.1.1, .int .i64 e.2.2.1.2.1, .int .i64 e.2.2.1.2.2, .string e.2.2.2] ∧ Box wr bk #[.int .i64 (clk es 0 : Nat), .int .i64 (clk es 1 : Nat), .int .i64 (clk es 2 : Nat)] ∧ Below w.heap.size w wr) (fun i _ => n - (intOf i).toNat)
                  case atStart => exact ⟨0, by omega, rfl, fun e he => by simp at he, bx, bk1, HW4.out⟩
                  case round =>
                    clear bx bk1 HW4
                    obtain ⟨j, hj, rfl, hnl, bx, bk1, hbw⟩ := hrel
                    have HNL := Lib.hid hnl
                    have HBW5 := Lib.hid hbw
                    clear hnl hbw
                    by_cases hltj : j < n
                    · obtain ⟨ad, f, e1, hbk, hf, d0, d1, d2, d3, d4, d5⟩ := eat (HL.out.below HBW5.out) (k := j) (by omega)
                      have X := fun w => ix22 (c := c) e1 hltj w
                      have HTf := Lib.hid (take_succ_of hf)
                      have HMf := Lib.hid (List.mem_of_getElem? hf)
                      obtain ⟨f0, f1, -⟩ := HTX.out f HMf.out
                      have cx := fun o => (bx.alloc (.cells #[.int .i64 f.1, .int .i64 f.2.1, .int .i64 f.2.2.1.1, .int .i64 f.2.2.1.2.1, .int .i64 f.2.2.1.2.2, .string f.2.2.2] o)).at
                      have cf := fun o => (Box.new wr #[.int .i64 f.1, .int .i64 f.2.1, .int .i64 f.2.2.1.1, .int .i64 f.2.2.1.2.1, .int .i64 f.2.2.1.2.2, .string f.2.2.2] o).at
                      clear hf e1
                      go_wp2_with fail
                      with_reducible refine (saw_any e f _ f0 f1).mono ?_
                      rintro _ w5 ⟨rfl, hb5⟩
                      have bx5 := (bx.alloc _).below hb5
                      have bk5 := (bk1.alloc _).below hb5
                      have bf5 := (Box.new wr #[.int .i64 f.1, .int .i64 f.2.1, .int .i64 f.2.2.1.1, .int .i64 f.2.2.1.2.1, .int .i64 f.2.2.1.2.2, .string f.2.2.2] 48).below hb5
                      have HW5 := Lib.hid (below_trans' HBW5.out (below1 _ hb5))
                      generalize wr.heap.size = bF at bf5 ⊢
                      clear cx cf d0 d1 d2 d3 d4 d5 X hb5 bx bk1
                      have HSTEP : Hid (¬ (sawE e f = true ∧ lowE e f) → ∀ g ∈ es.take (j + 1), ¬ (sawE e g = true ∧ lowE e g)) := Lib.hid fun h g hg => by
                        rw [HTf.out] at hg
                        rcases List.mem_append.1 hg with hg | hg
                        · exact HNL.out g hg
                        · rw [List.mem_singleton.1 hg]; exact h
                      have HWR : Hid (sawE e f = true → lowE e f → val es = 11) := Lib.hid fun h1 h2 => val_saw hsm HTX.out HORD.out HM.out (.inr ⟨f, HMf.out, h1, h2⟩)
                      cases hs : sawE e f
                      · have HS2 := Lib.hid (HSTEP.out (by rw [hs]; simp))
                        clear hs HSTEP HWR
                        go_wp2_with fail
                        go_roundw
                        case rel => exact ⟨j + 1, by omega, by go_num, HS2.out, bx5, bk5, HW5.out⟩
                        case measure => simp [intOf]; omega
                      · have Y0 := fun w => ix35 bX 2 0 (by omega) w
                        have Y1 := fun w => ix35 bX 2 1 (by omega) w
                        have Y2 := fun w => ix35 bX 2 2 (by omega) w
                        have Z0 := fun w => ix35 bF 2 0 (by omega) w
                        have Z1 := fun w => ix35 bF 2 1 (by omega) w
                        have Z2 := fun w => ix35 bF 2 2 (by omega) w
                        have cx := bx5.at
                        have cf := bf5.at
                        have HSS := Lib.hid hs
                        clear hs
                        by_cases ha : e.2.2.1.1 < f.2.2.1.1
                        · have HF := Lib.hid (HWR.out HSS.out (lowE_iff.2 (.inl ha)))
                          go_wp2_with fail
                          go_ret
                          exact ⟨ret_int HF.out.symm, HW5.out⟩
                        by_cases hb : e.2.2.1.2.1 < f.2.2.1.2.1
                        · have HF := Lib.hid (HWR.out HSS.out (lowE_iff.2 (.inr (.inl hb))))
                          go_wp2_with fail
                          go_ret
                          exact ⟨ret_int HF.out.symm, HW5.out⟩
                        by_cases hc : e.2.2.1.2.2 < f.2.2.1.2.2
                        · have HF := Lib.hid (HWR.out HSS.out (lowE_iff.2 (.inr (.inr hc))))
                          go_wp2_with fail
                          go_ret
                          exact ⟨ret_int HF.out.symm, HW5.out⟩
                        have HS2 := Lib.hid (HSTEP.out fun ⟨_, h2⟩ => by rw [lowE_iff] at h2; omega)
                        clear HSTEP HWR
                        go_wp2_with fail
                        clear cx cf
                        go_roundw
                        case rel => exact ⟨j + 1, by omega, by go_num, HS2.out, bx5, bk5, HW5.out⟩
                        case measure => simp [intOf]; omega
                    · have HNW : Hid (¬ wrong es e) := Lib.hid (by
                        rintro (⟨q, hq, hb⟩ | ⟨f, hf, h1, h2⟩)
                        · exact HNB3.out q hq hb
                        · have := HNL.out f (by rwa [List.take_of_length_le (by omega)])
                          exact this ⟨h1, h2⟩)
                      have HNO2 : Hid (∀ e ∈ es.take (k + 1), ¬ wrong es e) := Lib.hid fun g hg => by
                        rw [HT.out] at hg
                        rcases List.mem_append.1 hg with hg | hg
                        · exact HNO.out g hg
                        · rw [List.mem_singleton.1 hg]; exact HNW.out
                      go_wp2_with fail
                      go_roundw
                      case rel => exact ⟨k + 1, by omega, by go_num, HNO2.out, bk1, HBW5.out⟩
                      case measure => simp [intOf]; omega
            · have HFIN := Lib.hid (show val es = 0 from val_zero.2 ⟨hsm, HTX.out, HORD.out, fun e he => HNO.out e (by rwa [List.take_of_length_le (by omega)])⟩)
              go_wp2_with fail
              go_ret
              exact ⟨ret_int HFIN.out.symm, HBW.out⟩
end Go.Proofs.YtnlhllleipemlaaGreatDoor
