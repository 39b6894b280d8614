/- Walks: how many entries each place has. -/
import Derived.Test.YtpoodhhajghaoaaGreatDoorC1
namespace Go.Proofs.YtpoodhhajghaoaaGreatDoor
open Go.RowKit Go.Sort

theorem seen_any (e f : Ent) (w : World) (h0 : 0 ≤ f.1) (h1 : f.1 ≤ 2) :
    Calls Tryz.prog 55 #[eval_ e, eval_ f] w fun r w' => r = .returned (.bool (sawE e f)) ∧ Below w.heap.size w w' := by
  obtain ⟨k, hk⟩ := Int.eq_ofNat_of_zero_le h0
  obtain ⟨p, q, ⟨a, b, c⟩, t⟩ := e
  obtain ⟨p', q', ⟨a', b', c'⟩, t'⟩ := f
  dsimp only at hk h0 h1
  subst hk
  go_enter Tryz.func55, Tryz.ntmps55
  dsimp only [eval_]
  go_wp2_with fail
  refine wp_gen (fun w1 => Box w1 w.heap.size #[.int .i64 p, .int .i64 q, .int .i64 a, .int .i64 b, .int .i64 c, .string t] ∧ Box w1 (w.heap.size + 1) #[.int .i64 (k : Int), .int .i64 q', .int .i64 a', .int .i64 b', .int .i64 c', .string t'] ∧ Below w.heap.size w w1) ⟨(Box.new _ _ _).alloc _, Box.new2 _ _ _ _ _, belowAA _ _ _⟩ ?_
  rintro w1 ⟨b0, b1, hw1⟩
  have c0 := b0.at
  have c1 := b1.at
  have Y := fun w' => ix35 w.heap.size 2 k (by omega) w'
  rcases (show k = 0 ∨ k = 1 ∨ k = 2 by omega) with rfl | rfl | rfl
  all_goals
    go_quiet (fail)
    go_wp2_with fail
    go_ret
    exact ⟨ret_bool (by simp [sawE, Ent.sn]), below_drewN' hw1 _⟩

/-- How many entries of a place a list has. -/
def clk (es : List Ent) (p : Int) : Nat := (es.filter fun e => decide (e.1 = p)).length
abbrev clkV (es : List Ent) : Value := .agg #[.int .i64 (clk es 0 : Nat), .int .i64 (clk es 1 : Nat), .int .i64 (clk es 2 : Nat)]
theorem clk_snoc (es : List Ent) (e : Ent) (p : Int) : clk (es ++ [e]) p = clk es p + if e.1 = p then 1 else 0 := by
  unfold clk
  rw [List.filter_append, List.length_append]
  by_cases h : e.1 = p <;> simp [h]
theorem clk_le (es : List Ent) (p : Int) : clk es p ≤ es.length := List.length_filter_le _ _
set_option maxRecDepth 10000 in
set_option maxHeartbeats 1000000 in
theorem clock_any (A : Option Addr) (n c : Nat) (es : List Ent) (w : World) (hl : Reads w w.heap.size 6 A n (ents es)) (hn : n ≤ 1000000) (hp : ∀ e ∈ es, 0 ≤ e.1 ∧ e.1 ≤ 2) :
    Calls Tryz.prog 24 #[.slice A n c] w fun r w' => r = .returned (clkV es) ∧ Below w.heap.size w w' := by
  have hlen := hl.1
  rw [ents_length] at hlen
  have l1 : n ≤ es.length := by omega
  have l2 : es.length ≤ n := by omega
  have HL := Lib.hid hl
  have HP := Lib.hid hp
  clear hl hlen hp
  go_enter Tryz.func24, Tryz.ntmps24
  go_wp2_with fail
  refine gen_at (fun w1 => Box w1 w.heap.size #[.int .i64 0, .int .i64 0, .int .i64 0] ∧ Box w1 (w.heap.size + 1) #[.int .i64 0, .int .i64 0, .int .i64 0] ∧ (∀ i, w1.frozen? ⟨w.heap.size, i, none⟩ = false) ∧ (∀ i, w1.frozen? ⟨w.heap.size + 1, i, none⟩ = false) ∧ Below w.heap.size w w1) ⟨(Box.new _ _ _).alloc _, Box.new2 _ _ _ _ _, fz_below (Box.new w _ 36).1 (fz_new _ _ _) (belowA _ _), by have := fz_new (w.alloc (.cells #[.int .i64 0, .int .i64 0, .int .i64 0] 36)) #[.int .i64 0, .int .i64 0, .int .i64 0] 36; rw [World.size_alloc] at this; exact this, belowAA _ _ _⟩ ?_
  rintro w1 ⟨b0, b1, f0, f1, hw1⟩
  have HW1 := Lib.hid hw1
  clear hw1
  go_loopw [8] (fun i wr => ∃ k : Nat, k ≤ n ∧ i = .int .i64 k ∧ Box wr w.heap.size #[.int .i64 0, .int .i64 0, .int .i64 0] ∧ Box wr (w.heap.size + 1) #[.int .i64 (clk (es.take k) 0 : Nat), .int .i64 (clk (es.take k) 1 : Nat), .int .i64 (clk (es.take k) 2 : Nat)] ∧ (∀ i, wr.frozen? ⟨w.heap.size, i, none⟩ = false) ∧ (∀ i, wr.frozen? ⟨w.heap.size + 1, i, none⟩ = false) ∧ Below w.heap.size w wr) (fun i _ => n - (intOf i).toNat)
  case atStart => exact ⟨0, by omega, rfl, b0, by simpa [clk] using b1, f0, f1, HW1.out⟩
  case round =>
    clear b0 b1 f0 f1
    obtain ⟨k, hk, rfl, b0, b1, f0, f1, hbw⟩ := hrel
    have HB := Lib.hid hbw
    have HF0 := Lib.hid f0
    have HF1 := Lib.hid f1
    by_cases hlt : k < n
    · obtain ⟨ad, e, e1, hbk, he, d0, d1, d2, d3, d4, d5⟩ := eat (HL.out.below hbw) (k := k) (by omega)
      have X := fun w => ix22 (c := c) e1 hlt w
      have HT := Lib.hid (take_succ_of he)
      obtain ⟨p0, p1⟩ := HP.out e (List.mem_of_getElem? he)
      have k0 := clk_le (es.take k) 0
      have k1 := clk_le (es.take k) 1
      have k2 := clk_le (es.take k) 2
      have kl := List.length_take_le k es
      obtain ⟨p, q, ⟨a, b, c'⟩, tx⟩ := e
      dsimp only at p0 p1 d0 d1 d2 d3 d4 d5
      obtain ⟨m, rfl⟩ := Int.eq_ofNat_of_zero_le p0
      clear hbw he e1 f0 f1
      have hsz : w.heap.size + 1 < wr.heap.size := b1.1
      rcases (show m = 0 ∨ m = 1 ∨ m = 2 by omega) with rfl | rfl | rfl
      · have Y := fun w' => ix35 (w.heap.size + 1) 0 0 (by omega) w'
        have c1 := (b1.alloc (.cells #[.int .i64 0, .int .i64 q, .int .i64 a, .int .i64 b, .int .i64 c', .string tx] 38)).at
        have z1 := (fz_below b1.1 HF1.out (belowA wr (.cells #[.int .i64 0, .int .i64 q, .int .i64 a, .int .i64 b, .int .i64 c', .string tx] 38)))
        have c1w := b1.at
        have hB1 : Box (wr.setCell ⟨w.heap.size + 1, 0, none⟩ (.int .i64 ((clk (es.take k) 0 : Nat) + 1))) (w.heap.size + 1) #[.int .i64 (clk (es.take (k + 1)) 0 : Nat), .int .i64 (clk (es.take (k + 1)) 1 : Nat), .int .i64 (clk (es.take (k + 1)) 2 : Nat)] := by
          have h := b1.set (i := 0) (by simp) (.int .i64 ((clk (es.take k) 0 : Nat) + 1))
          rw [HT.out, clk_snoc, clk_snoc, clk_snoc]
          simpa using h
        have hB0 := b0.far (p := ⟨w.heap.size + 1, 0, none⟩) (by show w.heap.size ≠ w.heap.size + 1; omega) (.int .i64 ((clk (es.take k) 0 : Nat) + 1))
        have hBB := HB.out.setCell (p := ⟨w.heap.size + 1, 0, none⟩) (Nat.le_succ _) (.int .i64 ((clk (es.take k) 0 : Nat) + 1))
        have g0 : ∀ i, (wr.setCell ⟨w.heap.size + 1, 0, none⟩ (.int .i64 ((clk (es.take k) 0 : Nat) + 1))).frozen? ⟨w.heap.size, i, none⟩ = false := fun i => by rw [World.frozen?_setCell]; exact HF0.out i
        have g1 : ∀ i, (wr.setCell ⟨w.heap.size + 1, 0, none⟩ (.int .i64 ((clk (es.take k) 0 : Nat) + 1))).frozen? ⟨w.heap.size + 1, i, none⟩ = false := fun i => by rw [World.frozen?_setCell]; exact HF1.out i
        have HB1 := Lib.hid (hB1.alloc (.cells #[.int .i64 0, .int .i64 q, .int .i64 a, .int .i64 b, .int .i64 c', .string tx] 38))
        have HB0 := Lib.hid (hB0.alloc (.cells #[.int .i64 0, .int .i64 q, .int .i64 a, .int .i64 b, .int .i64 c', .string tx] 38))
        have HBB := Lib.hid (hBB.alloc (by simp; omega) (.cells #[.int .i64 0, .int .i64 q, .int .i64 a, .int .i64 b, .int .i64 c', .string tx] 38))
        have G0 := Lib.hid (fz_below hB0.1 g0 (belowA _ (.cells #[.int .i64 0, .int .i64 q, .int .i64 a, .int .i64 b, .int .i64 c', .string tx] 38)))
        have G1 := Lib.hid (fz_below hB1.1 g1 (belowA _ (.cells #[.int .i64 0, .int .i64 q, .int .i64 a, .int .i64 b, .int .i64 c', .string tx] 38)))
        clear hB1 hB0 hBB g0 g1
        generalize clk (es.take k) 0 = n0 at k0 c1 HB1 HB0 HBB G0 G1 c1w b1
        generalize clk (es.take k) 1 = n1 at k1 c1 HB1 HB0 HBB G0 G1 c1w b1
        generalize clk (es.take k) 2 = n2 at k2 c1 HB1 HB0 HBB G0 G1 c1w b1
        clear b0 b1
        go_wp2_with fail
        go_roundw
        case rel => exact ⟨k + 1, by omega, by go_num, HB0.out, HB1.out, G0.out, G1.out, HBB.out⟩
        case measure => simp [intOf]; omega
      · have Y := fun w' => ix35 (w.heap.size + 1) 0 1 (by omega) w'
        have c1 := (b1.alloc (.cells #[.int .i64 1, .int .i64 q, .int .i64 a, .int .i64 b, .int .i64 c', .string tx] 38)).at
        have z1 := (fz_below b1.1 HF1.out (belowA wr (.cells #[.int .i64 1, .int .i64 q, .int .i64 a, .int .i64 b, .int .i64 c', .string tx] 38)))
        have c1w := b1.at
        have hB1 : Box (wr.setCell ⟨w.heap.size + 1, 1, none⟩ (.int .i64 ((clk (es.take k) 1 : Nat) + 1))) (w.heap.size + 1) #[.int .i64 (clk (es.take (k + 1)) 0 : Nat), .int .i64 (clk (es.take (k + 1)) 1 : Nat), .int .i64 (clk (es.take (k + 1)) 2 : Nat)] := by
          have h := b1.set (i := 1) (by simp) (.int .i64 ((clk (es.take k) 1 : Nat) + 1))
          rw [HT.out, clk_snoc, clk_snoc, clk_snoc]
          simpa using h
        have hB0 := b0.far (p := ⟨w.heap.size + 1, 1, none⟩) (by show w.heap.size ≠ w.heap.size + 1; omega) (.int .i64 ((clk (es.take k) 1 : Nat) + 1))
        have hBB := HB.out.setCell (p := ⟨w.heap.size + 1, 1, none⟩) (Nat.le_succ _) (.int .i64 ((clk (es.take k) 1 : Nat) + 1))
        have g0 : ∀ i, (wr.setCell ⟨w.heap.size + 1, 1, none⟩ (.int .i64 ((clk (es.take k) 1 : Nat) + 1))).frozen? ⟨w.heap.size, i, none⟩ = false := fun i => by rw [World.frozen?_setCell]; exact HF0.out i
        have g1 : ∀ i, (wr.setCell ⟨w.heap.size + 1, 1, none⟩ (.int .i64 ((clk (es.take k) 1 : Nat) + 1))).frozen? ⟨w.heap.size + 1, i, none⟩ = false := fun i => by rw [World.frozen?_setCell]; exact HF1.out i
        have HB1 := Lib.hid (hB1.alloc (.cells #[.int .i64 1, .int .i64 q, .int .i64 a, .int .i64 b, .int .i64 c', .string tx] 38))
        have HB0 := Lib.hid (hB0.alloc (.cells #[.int .i64 1, .int .i64 q, .int .i64 a, .int .i64 b, .int .i64 c', .string tx] 38))
        have HBB := Lib.hid (hBB.alloc (by simp; omega) (.cells #[.int .i64 1, .int .i64 q, .int .i64 a, .int .i64 b, .int .i64 c', .string tx] 38))
        have G0 := Lib.hid (fz_below hB0.1 g0 (belowA _ (.cells #[.int .i64 1, .int .i64 q, .int .i64 a, .int .i64 b, .int .i64 c', .string tx] 38)))
        have G1 := Lib.hid (fz_below hB1.1 g1 (belowA _ (.cells #[.int .i64 1, .int .i64 q, .int .i64 a, .int .i64 b, .int .i64 c', .string tx] 38)))
        clear hB1 hB0 hBB g0 g1
        generalize clk (es.take k) 0 = n0 at k0 c1 HB1 HB0 HBB G0 G1 c1w b1
        generalize clk (es.take k) 1 = n1 at k1 c1 HB1 HB0 HBB G0 G1 c1w b1
        generalize clk (es.take k) 2 = n2 at k2 c1 HB1 HB0 HBB G0 G1 c1w b1
        clear b0 b1
        go_wp2_with fail
        go_roundw
        case rel => exact ⟨k + 1, by omega, by go_num, HB0.out, HB1.out, G0.out, G1.out, HBB.out⟩
        case measure => simp [intOf]; omega
      · have Y := fun w' => ix35 (w.heap.size + 1) 0 2 (by omega) w'
        have c1 := (b1.alloc (.cells #[.int .i64 2, .int .i64 q, .int .i64 a, .int .i64 b, .int .i64 c', .string tx] 38)).at
        have z1 := (fz_below b1.1 HF1.out (belowA wr (.cells #[.int .i64 2, .int .i64 q, .int .i64 a, .int .i64 b, .int .i64 c', .string tx] 38)))
        have c1w := b1.at
        have hB1 : Box (wr.setCell ⟨w.heap.size + 1, 2, none⟩ (.int .i64 ((clk (es.take k) 2 : Nat) + 1))) (w.heap.size + 1) #[.int .i64 (clk (es.take (k + 1)) 0 : Nat), .int .i64 (clk (es.take (k + 1)) 1 : Nat), .int .i64 (clk (es.take (k + 1)) 2 : Nat)] := by
          have h := b1.set (i := 2) (by simp) (.int .i64 ((clk (es.take k) 2 : Nat) + 1))
          rw [HT.out, clk_snoc, clk_snoc, clk_snoc]
          simpa using h
        have hB0 := b0.far (p := ⟨w.heap.size + 1, 2, none⟩) (by show w.heap.size ≠ w.heap.size + 1; omega) (.int .i64 ((clk (es.take k) 2 : Nat) + 1))
        have hBB := HB.out.setCell (p := ⟨w.heap.size + 1, 2, none⟩) (Nat.le_succ _) (.int .i64 ((clk (es.take k) 2 : Nat) + 1))
        have g0 : ∀ i, (wr.setCell ⟨w.heap.size + 1, 2, none⟩ (.int .i64 ((clk (es.take k) 2 : Nat) + 1))).frozen? ⟨w.heap.size, i, none⟩ = false := fun i => by rw [World.frozen?_setCell]; exact HF0.out i
        have g1 : ∀ i, (wr.setCell ⟨w.heap.size + 1, 2, none⟩ (.int .i64 ((clk (es.take k) 2 : Nat) + 1))).frozen? ⟨w.heap.size + 1, i, none⟩ = false := fun i => by rw [World.frozen?_setCell]; exact HF1.out i
        have HB1 := Lib.hid (hB1.alloc (.cells #[.int .i64 2, .int .i64 q, .int .i64 a, .int .i64 b, .int .i64 c', .string tx] 38))
        have HB0 := Lib.hid (hB0.alloc (.cells #[.int .i64 2, .int .i64 q, .int .i64 a, .int .i64 b, .int .i64 c', .string tx] 38))
        have HBB := Lib.hid (hBB.alloc (by simp; omega) (.cells #[.int .i64 2, .int .i64 q, .int .i64 a, .int .i64 b, .int .i64 c', .string tx] 38))
        have G0 := Lib.hid (fz_below hB0.1 g0 (belowA _ (.cells #[.int .i64 2, .int .i64 q, .int .i64 a, .int .i64 b, .int .i64 c', .string tx] 38)))
        have G1 := Lib.hid (fz_below hB1.1 g1 (belowA _ (.cells #[.int .i64 2, .int .i64 q, .int .i64 a, .int .i64 b, .int .i64 c', .string tx] 38)))
        clear hB1 hB0 hBB g0 g1
        generalize clk (es.take k) 0 = n0 at k0 c1 HB1 HB0 HBB G0 G1 c1w b1
        generalize clk (es.take k) 1 = n1 at k1 c1 HB1 HB0 HBB G0 G1 c1w b1
        generalize clk (es.take k) 2 = n2 at k2 c1 HB1 HB0 HBB G0 G1 c1w b1
        clear b0 b1
        go_wp2_with fail
        go_roundw
        case rel => exact ⟨k + 1, by omega, by go_num, HB0.out, HB1.out, G0.out, G1.out, HBB.out⟩
        case measure => simp [intOf]; omega
    · have HT := Lib.hid (show es.take k = es from List.take_of_length_le (by omega))
      rw [HT.out] at b1
      have c1 := b1.at
      have c0 := b0.at
      have z0 := HF0.out
      have HBX := Lib.hid b0
      clear hbw
      go_wp2_with fail
      have b2 := ((HBX.out.set (i := 0) (by simp) (.int .i64 (clk es 0 : Nat))).set (i := 1) (by simp) (.int .i64 (clk es 1 : Nat))).set (i := 2) (by simp) (.int .i64 (clk es 2 : Nat))
      have cF := b2.at
      exact bodyPost_ret (v := clkV es) (by simp [results, Tryz.results24, go_sem, cF]) rfl ⟨rfl, ((HB.out.setCell (p := ⟨w.heap.size, 0, none⟩) (Nat.le_refl _) _).setCell (p := ⟨w.heap.size, 1, none⟩) (Nat.le_refl _) _).setCell (p := ⟨w.heap.size, 2, none⟩) (Nat.le_refl _) _⟩
set_option maxRecDepth 10000 in
set_option maxHeartbeats 1000000 in
theorem refClock_any (A : Option Addr) (n c : Nat) (es : List Ent) (w : World) (hl : Reads w w.heap.size 6 A n (ents es)) (hn : n ≤ 1000000) (hp : ∀ e ∈ es, 0 ≤ e.1 ∧ e.1 ≤ 2) :
    Calls Tryz.prog 36 #[.slice A n c] w fun r w' => r = .returned (clkV es) ∧ Below w.heap.size w w' := by
  have hlen := hl.1
  rw [ents_length] at hlen
  have l1 : n ≤ es.length := by omega
  have l2 : es.length ≤ n := by omega
  have HL := Lib.hid hl
  have HP := Lib.hid hp
  clear hl hlen hp
  go_enter Tryz.func36, Tryz.ntmps36
  go_wp2_with fail
  refine gen_at (fun w1 => Box w1 w.heap.size #[.int .i64 0, .int .i64 0, .int .i64 0] ∧ Box w1 (w.heap.size + 1) #[.int .i64 0, .int .i64 0, .int .i64 0] ∧ (∀ i, w1.frozen? ⟨w.heap.size, i, none⟩ = false) ∧ (∀ i, w1.frozen? ⟨w.heap.size + 1, i, none⟩ = false) ∧ Below w.heap.size w w1) ⟨(Box.new _ _ _).alloc _, Box.new2 _ _ _ _ _, fz_below (Box.new w _ 36).1 (fz_new _ _ _) (belowA _ _), by have := fz_new (w.alloc (.cells #[.int .i64 0, .int .i64 0, .int .i64 0] 36)) #[.int .i64 0, .int .i64 0, .int .i64 0] 36; rw [World.size_alloc] at this; exact this, belowAA _ _ _⟩ ?_
  rintro w1 ⟨b0, b1, f0, f1, hw1⟩
  have HW1 := Lib.hid hw1
  clear hw1
  go_loopw [4] (fun i wr => ∃ k : Nat, k ≤ n ∧ i = .int .i64 k ∧ Box wr w.heap.size #[.int .i64 0, .int .i64 0, .int .i64 0] ∧ Box wr (w.heap.size + 1) #[.int .i64 (clk (es.take k) 0 : Nat), .int .i64 (clk (es.take k) 1 : Nat), .int .i64 (clk (es.take k) 2 : Nat)] ∧ (∀ i, wr.frozen? ⟨w.heap.size, i, none⟩ = false) ∧ (∀ i, wr.frozen? ⟨w.heap.size + 1, i, none⟩ = false) ∧ Below w.heap.size w wr) (fun i _ => n - (intOf i).toNat)
  case atStart => exact ⟨0, by omega, rfl, b0, by simpa [clk] using b1, f0, f1, HW1.out⟩
  case round =>
    clear b0 b1 f0 f1
    obtain ⟨k, hk, rfl, b0, b1, f0, f1, hbw⟩ := hrel
    have HB := Lib.hid hbw
    have HF0 := Lib.hid f0
    have HF1 := Lib.hid f1
    by_cases hlt : k < n
    · obtain ⟨ad, e, e1, hbk, he, d0, d1, d2, d3, d4, d5⟩ := eat (HL.out.below hbw) (k := k) (by omega)
      have X := fun w => ix22 (c := c) e1 hlt w
      have HT := Lib.hid (take_succ_of he)
      obtain ⟨p0, p1⟩ := HP.out e (List.mem_of_getElem? he)
      have k0 := clk_le (es.take k) 0
      have k1 := clk_le (es.take k) 1
      have k2 := clk_le (es.take k) 2
      have kl := List.length_take_le k es
      obtain ⟨p, q, ⟨a, b, c'⟩, tx⟩ := e
      dsimp only at p0 p1 d0 d1 d2 d3 d4 d5
      obtain ⟨m, rfl⟩ := Int.eq_ofNat_of_zero_le p0
      clear hbw he e1 f0 f1
      have hsz : w.heap.size + 1 < wr.heap.size := b1.1
      rcases (show m = 0 ∨ m = 1 ∨ m = 2 by omega) with rfl | rfl | rfl
      · have Y := fun w' => ix35 (w.heap.size + 1) 0 0 (by omega) w'
        have c1 := b1.at
        have z1 := HF1.out
        skip
        have hB1 : Box (wr.setCell ⟨w.heap.size + 1, 0, none⟩ (.int .i64 ((clk (es.take k) 0 : Nat) + 1))) (w.heap.size + 1) #[.int .i64 (clk (es.take (k + 1)) 0 : Nat), .int .i64 (clk (es.take (k + 1)) 1 : Nat), .int .i64 (clk (es.take (k + 1)) 2 : Nat)] := by
          have h := b1.set (i := 0) (by simp) (.int .i64 ((clk (es.take k) 0 : Nat) + 1))
          rw [HT.out, clk_snoc, clk_snoc, clk_snoc]
          simpa using h
        have hB0 := b0.far (p := ⟨w.heap.size + 1, 0, none⟩) (by show w.heap.size ≠ w.heap.size + 1; omega) (.int .i64 ((clk (es.take k) 0 : Nat) + 1))
        have hBB := HB.out.setCell (p := ⟨w.heap.size + 1, 0, none⟩) (Nat.le_succ _) (.int .i64 ((clk (es.take k) 0 : Nat) + 1))
        have g0 : ∀ i, (wr.setCell ⟨w.heap.size + 1, 0, none⟩ (.int .i64 ((clk (es.take k) 0 : Nat) + 1))).frozen? ⟨w.heap.size, i, none⟩ = false := fun i => by rw [World.frozen?_setCell]; exact HF0.out i
        have g1 : ∀ i, (wr.setCell ⟨w.heap.size + 1, 0, none⟩ (.int .i64 ((clk (es.take k) 0 : Nat) + 1))).frozen? ⟨w.heap.size + 1, i, none⟩ = false := fun i => by rw [World.frozen?_setCell]; exact HF1.out i
        have HB1 := Lib.hid (hB1)
        have HB0 := Lib.hid (hB0)
        have HBB := Lib.hid (hBB)
        have G0 := Lib.hid (g0)
        have G1 := Lib.hid (g1)
        clear hB1 hB0 hBB g0 g1
        generalize clk (es.take k) 0 = n0 at k0 c1 HB1 HB0 HBB G0 G1 b1
        generalize clk (es.take k) 1 = n1 at k1 c1 HB1 HB0 HBB G0 G1 b1
        generalize clk (es.take k) 2 = n2 at k2 c1 HB1 HB0 HBB G0 G1 b1
        clear b0 b1
        go_wp2_with fail
        go_roundw
        case rel => exact ⟨k + 1, by omega, by go_num, HB0.out, HB1.out, G0.out, G1.out, HBB.out⟩
        case measure => simp [intOf]; omega
      · have Y := fun w' => ix35 (w.heap.size + 1) 0 1 (by omega) w'
        have c1 := b1.at
        have z1 := HF1.out
        skip
        have hB1 : Box (wr.setCell ⟨w.heap.size + 1, 1, none⟩ (.int .i64 ((clk (es.take k) 1 : Nat) + 1))) (w.heap.size + 1) #[.int .i64 (clk (es.take (k + 1)) 0 : Nat), .int .i64 (clk (es.take (k + 1)) 1 : Nat), .int .i64 (clk (es.take (k + 1)) 2 : Nat)] := by
          have h := b1.set (i := 1) (by simp) (.int .i64 ((clk (es.take k) 1 : Nat) + 1))
          rw [HT.out, clk_snoc, clk_snoc, clk_snoc]
          simpa using h
        have hB0 := b0.far (p := ⟨w.heap.size + 1, 1, none⟩) (by show w.heap.size ≠ w.heap.size + 1; omega) (.int .i64 ((clk (es.take k) 1 : Nat) + 1))
        have hBB := HB.out.setCell (p := ⟨w.heap.size + 1, 1, none⟩) (Nat.le_succ _) (.int .i64 ((clk (es.take k) 1 : Nat) + 1))
        have g0 : ∀ i, (wr.setCell ⟨w.heap.size + 1, 1, none⟩ (.int .i64 ((clk (es.take k) 1 : Nat) + 1))).frozen? ⟨w.heap.size, i, none⟩ = false := fun i => by rw [World.frozen?_setCell]; exact HF0.out i
        have g1 : ∀ i, (wr.setCell ⟨w.heap.size + 1, 1, none⟩ (.int .i64 ((clk (es.take k) 1 : Nat) + 1))).frozen? ⟨w.heap.size + 1, i, none⟩ = false := fun i => by rw [World.frozen?_setCell]; exact HF1.out i
        have HB1 := Lib.hid (hB1)
        have HB0 := Lib.hid (hB0)
        have HBB := Lib.hid (hBB)
        have G0 := Lib.hid (g0)
        have G1 := Lib.hid (g1)
        clear hB1 hB0 hBB g0 g1
        generalize clk (es.take k) 0 = n0 at k0 c1 HB1 HB0 HBB G0 G1 b1
        generalize clk (es.take k) 1 = n1 at k1 c1 HB1 HB0 HBB G0 G1 b1
        generalize clk (es.take k) 2 = n2 at k2 c1 HB1 HB0 HBB G0 G1 b1
        clear b0 b1
        go_wp2_with fail
        go_roundw
        case rel => exact ⟨k + 1, by omega, by go_num, HB0.out, HB1.out, G0.out, G1.out, HBB.out⟩
        case measure => simp [intOf]; omega
      · have Y := fun w' => ix35 (w.heap.size + 1) 0 2 (by omega) w'
        have c1 := b1.at
        have z1 := HF1.out
        skip
        have hB1 : Box (wr.setCell ⟨w.heap.size + 1, 2, none⟩ (.int .i64 ((clk (es.take k) 2 : Nat) + 1))) (w.heap.size + 1) #[.int .i64 (clk (es.take (k + 1)) 0 : Nat), .int .i64 (clk (es.take (k + 1)) 1 : Nat), .int .i64 (clk (es.take (k + 1)) 2 : Nat)] := by
          have h := b1.set (i := 2) (by simp) (.int .i64 ((clk (es.take k) 2 : Nat) + 1))
          rw [HT.out, clk_snoc, clk_snoc, clk_snoc]
          simpa using h
        have hB0 := b0.far (p := ⟨w.heap.size + 1, 2, none⟩) (by show w.heap.size ≠ w.heap.size + 1; omega) (.int .i64 ((clk (es.take k) 2 : Nat) + 1))
        have hBB := HB.out.setCell (p := ⟨w.heap.size + 1, 2, none⟩) (Nat.le_succ _) (.int .i64 ((clk (es.take k) 2 : Nat) + 1))
        have g0 : ∀ i, (wr.setCell ⟨w.heap.size + 1, 2, none⟩ (.int .i64 ((clk (es.take k) 2 : Nat) + 1))).frozen? ⟨w.heap.size, i, none⟩ = false := fun i => by rw [World.frozen?_setCell]; exact HF0.out i
        have g1 : ∀ i, (wr.setCell ⟨w.heap.size + 1, 2, none⟩ (.int .i64 ((clk (es.take k) 2 : Nat) + 1))).frozen? ⟨w.heap.size + 1, i, none⟩ = false := fun i => by rw [World.frozen?_setCell]; exact HF1.out i
        have HB1 := Lib.hid (hB1)
        have HB0 := Lib.hid (hB0)
        have HBB := Lib.hid (hBB)
        have G0 := Lib.hid (g0)
        have G1 := Lib.hid (g1)
        clear hB1 hB0 hBB g0 g1
        generalize clk (es.take k) 0 = n0 at k0 c1 HB1 HB0 HBB G0 G1 b1
        generalize clk (es.take k) 1 = n1 at k1 c1 HB1 HB0 HBB G0 G1 b1
        generalize clk (es.take k) 2 = n2 at k2 c1 HB1 HB0 HBB G0 G1 b1
        clear b0 b1
        go_wp2_with fail
        go_roundw
        case rel => exact ⟨k + 1, by omega, by go_num, HB0.out, HB1.out, G0.out, G1.out, HBB.out⟩
        case measure => simp [intOf]; omega
    · have HT := Lib.hid (show es.take k = es from List.take_of_length_le (by omega))
      rw [HT.out] at b1
      have c1 := b1.at
      have c0 := b0.at
      have z0 := HF0.out
      have HBX := Lib.hid b0
      clear hbw
      go_wp2_with fail
      have b2 := ((HBX.out.set (i := 0) (by simp) (.int .i64 (clk es 0 : Nat))).set (i := 1) (by simp) (.int .i64 (clk es 1 : Nat))).set (i := 2) (by simp) (.int .i64 (clk es 2 : Nat))
      have cF := b2.at
      exact bodyPost_ret (v := clkV es) (by simp [results, Tryz.results36, go_sem, cF]) rfl ⟨rfl, ((HB.out.setCell (p := ⟨w.heap.size, 0, none⟩) (Nat.le_refl _) _).setCell (p := ⟨w.heap.size, 1, none⟩) (Nat.le_refl _) _).setCell (p := ⟨w.heap.size, 2, none⟩) (Nat.le_refl _) _⟩
end Go.Proofs.YtpoodhhajghaoaaGreatDoor
