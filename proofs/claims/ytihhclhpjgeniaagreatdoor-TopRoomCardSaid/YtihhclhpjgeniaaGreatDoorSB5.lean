/- Merged texts: C5 C6 C7 Eq C8 C9 C10 -/
import Derived.Test.YtihhclhpjgeniaaGreatDoorSB4
import Derived.ChangeKeysEq
namespace Go.Proofs.YtihhclhpjgeniaaGreatDoor
open Go.RowKit Go.Sort
theorem ix35v (x0 x1 x2 : Value) : (∀ w, (Instr.index 45 (.agg #[x0, x1, x2]) (.int .i64 0)).run Tryz.prog w = .ok x0 w) ∧ (∀ w, (Instr.index 45 (.agg #[x0, x1, x2]) (.int .i64 1)).run Tryz.prog w = .ok x1 w) ∧ (∀ w, (Instr.index 45 (.agg #[x0, x1, x2]) (.int .i64 2)).run Tryz.prog w = .ok x2 w) :=
 ⟨fun _ => by kernel_rfl, fun _ => by kernel_rfl, fun _ => by kernel_rfl⟩
structure LastP (l : List Ent) (P L : Int) : Prop where
 ord : Ord l
 le : ∀ f ∈ l, f.1 ≤ P
 has : P = 0 ∨ ∃ f ∈ l, f.1 = P
 num : L = (clk l P : Nat)
 p0 : 0 ≤ P
section
variable {l : List Ent} {P L : Int} {e : Ent}
theorem LastP.nil : LastP [] 0 0 := ⟨Ord_nil, fun f hf => by simp at hf, .inl rfl, by simp [clk], by omega⟩
theorem LastP.up (h : LastP l P L) (h1 : P < e.1) (h2 : e.2.1 = 1) : LastP (l ++ [e]) e.1 e.2.1 := by
 have h0 : clk l e.1 = 0 := clk_none fun f hf => by have := h.le f hf; omega
 refine ⟨Ord_snoc.2 ⟨h.ord, fun f hf => by have := h.le f hf; omega, by rw [h0]; simpa using h2⟩, fun f hf => ?_, .inr ⟨e, by simp, rfl⟩, by rw [clk_snoc, if_pos rfl, h0]; simpa using h2, by have := h.p0; omega⟩
 rcases List.mem_append.1 hf with hf | hf
 ·have := h.le f hf; omega
 ·rw [List.mem_singleton.1 hf]; exact Int.le_refl _
theorem LastP.on (h : LastP l P L) (h0 : ¬ P < e.1) (h1 : ¬ e.1 < P) (h2 : e.2.1 = L + 1) : LastP (l ++ [e]) P e.2.1 := by
 have he : e.1 = P := by omega
 have hn := h.num
 refine ⟨Ord_snoc.2 ⟨h.ord, fun f hf => by have := h.le f hf; omega, by rw [he]; omega⟩, fun f hf => ?_, .inr ⟨e, by simp, he⟩, by rw [clk_snoc, if_pos he]; omega, h.p0⟩
 rcases List.mem_append.1 hf with hf | hf
 ·exact h.le f hf
 ·rw [List.mem_singleton.1 hf]; omega
theorem LastP.no1 (h : LastP l P L) (h1 : P < e.1) (h2 : e.2.1 ≠ 1) : ¬ Ord (l ++ [e]) := fun ho => by
 have h0 : clk l e.1 = 0 := clk_none fun f hf => by have := h.le f hf; omega
 have := (Ord_snoc.1 ho).2.2
 rw [h0] at this
 exact h2 (by simpa using this)
theorem LastP.no2 (h : LastP l P L) (h0 : 0 ≤ e.1) (h1 : e.1 < P) : ¬ Ord (l ++ [e]) := fun ho => by
 rcases h.has with h2 | ⟨f, hf, h2⟩
 ·omega
 ·have := (Ord_snoc.1 ho).2.1 f hf
  omega
theorem LastP.no3 (h : LastP l P L) (h0 : ¬ P < e.1) (h1 : ¬ e.1 < P) (h2 : e.2.1 ≠ L + 1) : ¬ Ord (l ++ [e]) := fun ho => by
 have he : e.1 = P := by omega
 have := (Ord_snoc.1 ho).2.2
 rw [he, ← h.num] at this
 exact h2 this
end
theorem val_part {es : List Ent} {k : Nat} {e : Ent} (hl : es.length ≤ 60) (hT : es.take (k + 1) = es.take k ++ [e]) (h : ¬ Ord (es.take k ++ [e])) : val es = 1 :=
 val_ord hl fun ho => h (hT ▸ Ord_take ho (k + 1))
theorem sn_idx (e : Ent) {p : Nat} (hp : p < 3) (w : World) : (Instr.index 45 (.agg #[.int .i64 e.2.2.1.1, .int .i64 e.2.2.1.2.1, .int .i64 e.2.2.1.2.2]) (.int .i64 (p : Int))).run Tryz.prog w = .ok (.int .i64 (e.sn p)) w := by
 rcases (show p = 0 ∨ p = 1 ∨ p = 2 by omega) with rfl | rfl | rfl
 ·exact (ix35v _ _ _).1 w
 ·exact (ix35v _ _ _).2.1 w
 ·exact (ix35v _ _ _).2.2 w
theorem ix35z (b k : Nat) (h : k < 3) (w : World) : (Instr.indexAt 45 (.pointer (some ⟨b, 0, none⟩)) (.int .i64 (k : Int))).run Tryz.prog w = .ok (.pointer (some ⟨b, k, none⟩)) w := by
 have := ix35 b 0 k h w
 rwa [Nat.zero_add] at this
theorem clk_cell {w : World} {b : Nat} {es : List Ent} (h : Box w b #[.int .i64 (clk es 0 : Nat), .int .i64 (clk es 1 : Nat), .int .i64 (clk es 2 : Nat)]) {p : Nat} (hp : p < 3) : w.cell? ⟨b, p, none⟩ = some (.int .i64 (clk es p : Nat)) := by
 rw [h.at p]
 rcases (show p = 0 ∨ p = 1 ∨ p = 2 by omega) with rfl | rfl | rfl <;> rfl
theorem lowE_iff {e f : Ent} : lowE e f ↔ e.2.2.1.1 < f.2.2.1.1 ∨ e.2.2.1.2.1 < f.2.2.1.2.1 ∨ e.2.2.1.2.2 < f.2.2.1.2.2 := by
 unfold lowE
 constructor
 ·rintro ⟨p, hp, h⟩
  rcases (show p = 0 ∨ p = 1 ∨ p = 2 by omega) with rfl | rfl | rfl
  ·exact .inl h
  ·exact .inr (.inl h)
  ·exact .inr (.inr h)
 ·rintro (h | h | h)
  ·exact ⟨0, by omega, h⟩
  ·exact ⟨1, by omega, h⟩
  ·exact ⟨2, by omega, h⟩
def shortT (es : List Ent) : Prop := ∀ e ∈ es, e.2.2.2.size ≤ 100000
set_option maxRecDepth 100000 in
set_option maxHeartbeats 4000000 in
theorem validate_any (A : Option Addr) (n c : Nat) (es : List Ent) (w : World) (hl : Reads w w.heap.size 6 A n (ents es)) (hn : n ≤ 1000000) (ht : shortT es) :
  Calls Tryz.prog 132 #[.slice A n c] w fun r w' => r = .returned (.int .i64 (val es)) ∧ Below w.heap.size w w' := by
 have hlen := hl.1
 rw [ents_length] at hlen
 have l1 : n ≤ es.length := by omega
 have l2 : es.length ≤ n := by omega
 have HL := Lib.hid hl
 have HS := Lib.hid ht
 clear hl hlen ht
 go_enter Tryz.func132, Tryz.ntmps132
 by_cases hbig : 60 < n
 ·have HF := Lib.hid (val_large (show 60 < es.length by omega))
  go_wp2_with fail
  go_ret
  exact ⟨ret_int HF.out.symm, Below.refl _ _⟩
 have hsm : es.length ≤ 60 := by omega
 go_wp2_with fail
 go_loopw [21] (fun i wr => ∃ k : Nat, k ≤ n ∧ i = .int .i64 k ∧ (∀ e ∈ es.take k, okT e) ∧ Below w.heap.size w wr) (fun i _ => n - (intOf i).toNat)
 case atStart => exact ⟨0, by omega, rfl, fun e he => by simp at he, Below.refl _ _⟩
 case round =>
  obtain ⟨k, hk, rfl, hok, hbw⟩ := hrel
  have HB := Lib.hid hbw
  have HK := Lib.hid hok
  clear hok
  by_cases hlt : k < n
  ·obtain ⟨ad, e, e1, hbk, he, d0, d1, d2, d3, d4, d5⟩ := eat (HL.out.below hbw) (k := k) (by omega)
   have X := fun w => ix22 (c := c) e1 hlt w
   have HT := Lib.hid (take_succ_of he)
   have HM := Lib.hid (List.mem_of_getElem? he)
   have htx : e.2.2.2.size ≤ 1000000 := by have := HS.out e HM.out; omega
   clear hbw he e1
   by_cases hko : okT e
   ·have HO := Lib.hid hko
    obtain ⟨p0, p1, p2⟩ := hko
    have H2 := Lib.hid p2
    clear p2
    go_wp2_with fail
    with_reducible refine (rightText_any e.2.2.2 _ htx).mono ?_
    rintro _ w1 ⟨rfl, hb1⟩
    have HB1 := Lib.hid (below_trans' HB.out (below1 _ hb1))
    rw [H2.out]
    clear hb1 d0 d1 d2 d3 d4 d5 X
    go_wp2_with fail
    go_roundw
    case rel =>
     refine ⟨k + 1, by omega, by go_num, fun f hf => ?_, HB1.out⟩
     rw [HT.out] at hf
     rcases List.mem_append.1 hf with hf | hf
     ·exact HK.out f hf
     ·rw [List.mem_singleton.1 hf]; exact HO.out
    case measure => simp [intOf]; omega
   ·have HF := Lib.hid (val_txt hsm HM.out hko)
    have hc : e.1 < 0 ∨ (0 ≤ e.1 ∧ (2 < e.1 ∨ (e.1 ≤ 2 ∧ right e.2.2.2 = false))) := by
     rcases Int.lt_or_le e.1 0 with h1 | h1
     ·exact .inl h1
     rcases Int.lt_or_le 2 e.1 with h2 | h2
     ·exact .inr ⟨h1, .inl h2⟩
     refine .inr ⟨h1, .inr ⟨h2, ?_⟩⟩
     cases hr : right e.2.2.2
     ·rfl
     ·exact (hko ⟨h1, h2, hr⟩).elim
    clear hko
    rcases hc with h1 | ⟨h1, h2 | ⟨h2, h3⟩⟩
    ·go_wp2_with fail
     go_ret
     exact ⟨ret_int HF.out.symm, below_trans' HB.out (belowA _ _)⟩
    ·go_wp2_with fail
     go_ret
     exact ⟨ret_int HF.out.symm, below_trans' HB.out (belowA _ _)⟩
    ·have H3 := Lib.hid h3
     clear h3
     go_wp2_with fail
     with_reducible refine (rightText_any e.2.2.2 _ htx).mono ?_
     rintro _ w1 ⟨rfl, hb1⟩
     have HB1 := Lib.hid (below_trans' HB.out (below1 _ hb1))
     rw [H3.out]
     clear hb1 d0 d1 d2 d3 d4 d5 X
     go_wp2_with fail
     go_ret
     exact ⟨ret_int HF.out.symm, HB1.out⟩
  ·have HTX := Lib.hid (show ∀ e ∈ es, okT e by have := HK.out; rwa [List.take_of_length_le (by omega)] at this)
   clear HK hbw
   refine gen_at (fun w1 => Below w.heap.size w w1) HB.out ?_
   clear HB
   rintro w1 hw1
   have HB := Lib.hid hw1
   clear hw1
   go_wp2_with fail
   go_loopw [5, 6, 42] (fun a b i wr => ∃ (k : Nat) (L P : Int), k ≤ n ∧ i = .int .i64 k ∧ a = .int .i64 L ∧ b = .int .i64 P ∧ LastP (es.take k) P L ∧ Below w1.heap.size w1 wr) (fun _ _ i _ => n - (intOf i).toNat)
   case atStart => exact ⟨0, 0, 0, by omega, rfl, rfl, rfl, LastP.nil, Below.refl _ _⟩
   case round =>
    obtain ⟨k, L, P, hk, rfl, rfl, rfl, hlast, hbw⟩ := hrel
    have HBW := Lib.hid (below_trans' HB.out hbw)
    have HBW1 := Lib.hid hbw
    have HLP := Lib.hid hlast
    have hL := hlast.num
    have kl := List.length_take_le k es
    have cl := clk_le (es.take k) P
    have L0 : 0 ≤ L := by omega
    have L1 : L ≤ 60 := by omega
    clear hbw hlast hL kl cl
    by_cases hlt : k < n
    ·obtain ⟨ad, e, e1, hbk, he, d0, d1, d2, d3, d4, d5⟩ := eat (HL.out.below HBW.out) (k := k) (by omega)
     have X := fun w => ix22 (c := c) e1 hlt w
     have HT := Lib.hid (take_succ_of he)
     have HM := Lib.hid (List.mem_of_getElem? he)
     obtain ⟨p0, p1, -⟩ := HTX.out e HM.out
     clear he e1
     have c0 := fun o => (Box.new wr #[.int .i64 e.1, .int .i64 e.2.1, .int .i64 e.2.2.1.1, .int .i64 e.2.2.1.2.1, .int .i64 e.2.2.1.2.2, .string e.2.2.2] o).at
     by_cases hgt : P < e.1
     ·by_cases hq : e.2.1 = 1
      ·have g : (e.2.1 != 1) = false := by rw [hq]; rfl
       have HQ := Lib.hid hq
       clear hq
       go_wp2_with fail
       go_quiet (fail)
       go_wp2_with fail
       go_roundw
       case rel =>
        exact ⟨k + 1, e.2.1, e.1, by omega, by go_num, rfl, rfl, by rw [HT.out]; exact HLP.out.up hgt HQ.out, below_drewN' (below_trans' HBW1.out (belowA _ _)) _⟩
       case measure => simp [intOf]; omega
      ·have g : (e.2.1 != 1) = true := by simpa using hq
       have HF := Lib.hid (val_part hsm HT.out (HLP.out.no1 hgt hq))
       clear hq
       go_wp2_with fail
       go_quiet (fail)
       go_wp2_with fail
       go_ret
       exact ⟨ret_int HF.out.symm, below_drewN' (below_trans' HBW.out (belowA _ _)) _⟩
     ·by_cases hlp : e.1 < P
      ·have HF := Lib.hid (val_part hsm HT.out (HLP.out.no2 p0 hlp))
       go_wp2_with fail
       go_ret
       exact ⟨ret_int HF.out.symm, below_trans' HBW.out (belowA _ _)⟩
      ·by_cases hq : e.2.1 = L + 1
       ·have g : (e.2.1 != L + 1) = false := by rw [hq]; simp
        have HQ := Lib.hid hq
        clear hq
        go_wp2_with fail
        go_roundw
        case rel =>
         exact ⟨k + 1, e.2.1, P, by omega, by go_num, rfl, rfl, by rw [HT.out]; exact HLP.out.on hgt hlp HQ.out, below_trans' HBW1.out (belowA _ _)⟩
        case measure => simp [intOf]; omega
       ·have g : (e.2.1 != L + 1) = true := by simpa using hq
        have HF := Lib.hid (val_part hsm HT.out (HLP.out.no3 hgt hlp hq))
        clear hq
        go_wp2_with fail
        go_ret
        exact ⟨ret_int HF.out.symm, below_trans' HBW.out (belowA _ _)⟩
    ·have HORD := Lib.hid (show Ord es by have := HLP.out.ord; rwa [List.take_of_length_le (by omega)] at this)
     have HSEQ := Lib.hid (Ord_seq HORD.out)
     have HPL : Hid (∀ e ∈ es, 0 ≤ e.1 ∧ e.1 ≤ 2) := Lib.hid fun e he => by obtain ⟨q0, q1, _⟩ := HTX.out e he; exact ⟨q0, q1⟩
     clear HLP L0 L1
     go_wp2_with fail
     with_reducible refine (clock_any A n c es _ (HL.out.on HBW.out) hn HPL.out).mono ?_
     rintro _ w2 ⟨rfl, hb2⟩
     go_wp2_with fail
     refine gen_at (fun W => Box W w2.heap.size #[.int .i64 (clk es 0 : Nat), .int .i64 (clk es 1 : Nat), .int .i64 (clk es 2 : Nat)] ∧ Below w.heap.size w W) ⟨Box.new _ _ 45, below_trans' (below_trans' HBW.out hb2) (belowA _ _)⟩ ?_
     rintro w3 ⟨bk0, hb3⟩
     have HW3 := Lib.hid hb3
     generalize w2.heap.size = bk at bk0 ⊢
     clear hb2 hb3 HBW HB
     go_loopw [70] (fun i wr => ∃ k : Nat, k ≤ n ∧ i = .int .i64 k ∧ (∀ e ∈ es.take k, ¬ wrong es e) ∧ Box wr bk #[.int .i64 (clk es 0 : Nat), .int .i64 (clk es 1 : Nat), .int .i64 (clk es 2 : Nat)] ∧ Below w.heap.size w wr) (fun i _ => n - (intOf i).toNat)
     case atStart => exact ⟨0, by omega, rfl, fun e he => by simp at he, bk0, HW3.out⟩
     case round =>
      clear bk0 HW3
      obtain ⟨k, hk, rfl, hno, bk0, hbw⟩ := hrel
      have HNO := Lib.hid hno
      have HBW := Lib.hid hbw
      clear hno hbw
      by_cases hlt : k < n
      ·obtain ⟨ad, e, e1, hbk, he, d0, d1, d2, d3, d4, d5⟩ := eat (HL.out.below HBW.out) (k := k) (by omega)
       have X := fun w => ix22 (c := c) e1 hlt w
       have HT := Lib.hid (take_succ_of he)
       have HM := Lib.hid (List.mem_of_getElem? he)
       obtain ⟨p0, p1, -⟩ := HTX.out e HM.out
       obtain ⟨s0, s1⟩ := HSEQ.out e HM.out
       clear he e1
       have c0 := fun o => (Box.new wr #[.int .i64 e.1, .int .i64 e.2.1, .int .i64 e.2.2.1.1, .int .i64 e.2.2.1.2.1, .int .i64 e.2.2.1.2.2, .string e.2.2.2] o).at
       go_wp2_with fail
       refine gen_at (fun W => Box W wr.heap.size #[.int .i64 e.1, .int .i64 e.2.1, .int .i64 e.2.2.1.1, .int .i64 e.2.2.1.2.1, .int .i64 e.2.2.1.2.2, .string e.2.2.2] ∧ Box W bk #[.int .i64 (clk es 0 : Nat), .int .i64 (clk es 1 : Nat), .int .i64 (clk es 2 : Nat)] ∧ Below w.heap.size w W) ⟨Box.new _ _ _, bk0.alloc _, below_trans' HBW.out (belowA _ _)⟩ ?_
       clear X d0 d1 d2 d3 d4 d5 c0
       rintro w4 ⟨bx, bk1, hb4⟩
       have HW4 := Lib.hid hb4
       generalize wr.heap.size = bX at bx ⊢
       clear hb4
       have X35 := fun (p : Nat) (hp : p < 3) w => sn_idx e hp w
       have HX35 := Lib.hid X35
       clear X35
       have cx := bx.at
       go_loop [76] (fun i => ∃ p : Nat, p ≤ 3 ∧ i = .int .i64 p ∧ ∀ q, q < p → ¬ badP es e q) (fun i => 3 - (intOf i).toNat)
       case atStart => exact ⟨0, by omega, rfl, fun q hq => by omega⟩
       case round =>
        obtain ⟨p, hp, rfl, hnb⟩ := hrel
        have HNB := Lib.hid hnb
        clear hnb
        by_cases hp3 : p < 3
        ·have x35 := HX35.out p hp3
         have Y := fun w => ix35z bk p hp3 w
         have ck := clk_cell bk1 hp3
         by_cases hb : badP es e p
         ·have HF := Lib.hid (val_saw hsm HTX.out HORD.out HM.out (.inl ⟨p, hp3, hb⟩))
          have hc : ((p : Int) = e.1 ∧ e.sn p ≠ e.2.1 - 1) ∨ (¬ ((p : Int) = e.1 ∧ e.sn p ≠ e.2.1 - 1) ∧ (e.sn p < 0 ∨ (0 ≤ e.sn p ∧ (clk es p : Int) < e.sn p))) := by unfold badP at hb; omega
          clear hb
          generalize e.sn p = sn at hc x35
          generalize clk es p = cp at hc ck
          rcases hc with ⟨h1, h2⟩ | ⟨h1, h2 | ⟨h2, h3⟩⟩
          ·have g1 : ((p : Int) == e.1) = true := by simpa using h1
           have g2 : (sn != e.2.1 - 1) = true := by simpa using h2
           clear h1 h2
           go_wp2_with fail
           go_ret
           exact ⟨ret_int HF.out.symm, HW4.out⟩
          ·by_cases hq : (p : Int) = e.1
           ·have g1 : ((p : Int) == e.1) = true := by simpa using hq
            have g2 : (sn != e.2.1 - 1) = false := by simp; omega
            clear h1 hq
            go_wp2_with fail
            go_ret
            exact ⟨ret_int HF.out.symm, HW4.out⟩
           ·have g1 : ((p : Int) == e.1) = false := by simpa using hq
            clear h1 hq
            go_wp2_with fail
            go_ret
            exact ⟨ret_int HF.out.symm, HW4.out⟩
          ·by_cases hq : (p : Int) = e.1
           ·have g1 : ((p : Int) == e.1) = true := by simpa using hq
            have g2 : (sn != e.2.1 - 1) = false := by simp; omega
            clear h1 hq
            go_wp2_with fail
            go_ret
            exact ⟨ret_int HF.out.symm, HW4.out⟩
           ·have g1 : ((p : Int) == e.1) = false := by simpa using hq
            clear h1 hq
            go_wp2_with fail
            go_ret
            exact ⟨ret_int HF.out.symm, HW4.out⟩
         ·have HNB2 : Hid (∀ q, q < p + 1 → ¬ badP es e q) := Lib.hid fun q hq => by
           rcases Nat.lt_or_ge q p with h | h
           ·exact HNB.out q h
           ·obtain rfl : q = p := by omega
            exact hb
          have hc : ((p : Int) = e.1 → e.sn p = e.2.1 - 1) ∧ 0 ≤ e.sn p ∧ e.sn p ≤ (clk es p : Int) := by unfold badP at hb; omega
          clear hb
          obtain ⟨h1, h2, h3⟩ := hc
          generalize e.sn p = sn at h1 h2 h3 x35
          generalize clk es p = cp at h3 ck
          by_cases hq : (p : Int) = e.1
          ·have g1 : ((p : Int) == e.1) = true := by simpa using hq
           have g2 : (sn != e.2.1 - 1) = false := by simp; omega
           clear h1 hq
           go_wp2_with fail
           go_round
           case rel => exact ⟨p + 1, by omega, by go_num, HNB2.out⟩
           case measure => simp [intOf]; omega
          ·have g1 : ((p : Int) == e.1) = false := by simpa using hq
           clear h1 hq
           go_wp2_with fail
           go_round
           case rel => exact ⟨p + 1, by omega, by go_num, HNB2.out⟩
           case measure => simp [intOf]; omega
        ·have HNB3 : Hid (∀ q, q < 3 → ¬ badP es e q) := Lib.hid fun q hq => HNB.out q (by omega)
         clear HNB HX35 cx
         go_wp2_with fail
         go_loopw [105] (fun i wr => ∃ j : Nat, j ≤ n ∧ i = .int .i64 j ∧ (∀ f ∈ es.take j, ¬ (sawE e f = true ∧ lowE e f)) ∧ Box wr bX #[.int .i64 e.1, .int .i64 e.2.1, .int .i64 e.2.2.1.1, .int .i64 e.2.2.1.2.1, .int .i64 e.2.2.1.2.2, .string e.2.2.2] ∧ Box wr bk #[.int .i64 (clk es 0 : Nat), .int .i64 (clk es 1 : Nat), .int .i64 (clk es 2 : Nat)] ∧ Below w.heap.size w wr) (fun i _ => n - (intOf i).toNat)
         case atStart => exact ⟨0, by omega, rfl, fun e he => by simp at he, bx, bk1, HW4.out⟩
         case round =>
          clear bx bk1 HW4
          obtain ⟨j, hj, rfl, hnl, bx, bk1, hbw⟩ := hrel
          have HNL := Lib.hid hnl
          have HBW5 := Lib.hid hbw
          clear hnl hbw
          by_cases hltj : j < n
          ·obtain ⟨ad, f, e1, hbk, hf, d0, d1, d2, d3, d4, d5⟩ := eat (HL.out.below HBW5.out) (k := j) (by omega)
           have X := fun w => ix22 (c := c) e1 hltj w
           have HTf := Lib.hid (take_succ_of hf)
           have HMf := Lib.hid (List.mem_of_getElem? hf)
           obtain ⟨f0, f1, -⟩ := HTX.out f HMf.out
           have cx := fun o => (bx.alloc (.cells #[.int .i64 f.1, .int .i64 f.2.1, .int .i64 f.2.2.1.1, .int .i64 f.2.2.1.2.1, .int .i64 f.2.2.1.2.2, .string f.2.2.2] o)).at
           have cf := fun o => (Box.new wr #[.int .i64 f.1, .int .i64 f.2.1, .int .i64 f.2.2.1.1, .int .i64 f.2.2.1.2.1, .int .i64 f.2.2.1.2.2, .string f.2.2.2] o).at
           clear hf e1
           go_wp2_with fail
           with_reducible refine (saw_any e f _ f0 f1).mono ?_
           rintro _ w5 ⟨rfl, hb5⟩
           have bx5 := (bx.alloc _).below hb5
           have bk5 := (bk1.alloc _).below hb5
           have bf5 := (Box.new wr #[.int .i64 f.1, .int .i64 f.2.1, .int .i64 f.2.2.1.1, .int .i64 f.2.2.1.2.1, .int .i64 f.2.2.1.2.2, .string f.2.2.2] 47).below hb5
           have HW5 := Lib.hid (below_trans' HBW5.out (below1 _ hb5))
           generalize wr.heap.size = bF at bf5 ⊢
           clear cx cf d0 d1 d2 d3 d4 d5 X hb5 bx bk1
           have HSTEP : Hid (¬ (sawE e f = true ∧ lowE e f) → ∀ g ∈ es.take (j + 1), ¬ (sawE e g = true ∧ lowE e g)) := Lib.hid fun h g hg => by
            rw [HTf.out] at hg
            rcases List.mem_append.1 hg with hg | hg
            ·exact HNL.out g hg
            ·rw [List.mem_singleton.1 hg]; exact h
           have HWR : Hid (sawE e f = true → lowE e f → val es = 11) := Lib.hid fun h1 h2 => val_saw hsm HTX.out HORD.out HM.out (.inr ⟨f, HMf.out, h1, h2⟩)
           cases hs : sawE e f
           ·have HS2 := Lib.hid (HSTEP.out (by rw [hs]; simp))
            clear hs HSTEP HWR
            go_wp2_with fail
            go_roundw
            case rel => exact ⟨j + 1, by omega, by go_num, HS2.out, bx5, bk5, HW5.out⟩
            case measure => simp [intOf]; omega
           ·have Y0 := fun w => ix35 bX 2 0 (by omega) w
            have Y1 := fun w => ix35 bX 2 1 (by omega) w
            have Y2 := fun w => ix35 bX 2 2 (by omega) w
            have Z0 := fun w => ix35 bF 2 0 (by omega) w
            have Z1 := fun w => ix35 bF 2 1 (by omega) w
            have Z2 := fun w => ix35 bF 2 2 (by omega) w
            have cx := bx5.at
            have cf := bf5.at
            have HSS := Lib.hid hs
            clear hs
            by_cases ha : e.2.2.1.1 < f.2.2.1.1
            ·have HF := Lib.hid (HWR.out HSS.out (lowE_iff.2 (.inl ha)))
             go_wp2_with fail
             go_ret
             exact ⟨ret_int HF.out.symm, HW5.out⟩
            by_cases hb : e.2.2.1.2.1 < f.2.2.1.2.1
            ·have HF := Lib.hid (HWR.out HSS.out (lowE_iff.2 (.inr (.inl hb))))
             go_wp2_with fail
             go_ret
             exact ⟨ret_int HF.out.symm, HW5.out⟩
            by_cases hc : e.2.2.1.2.2 < f.2.2.1.2.2
            ·have HF := Lib.hid (HWR.out HSS.out (lowE_iff.2 (.inr (.inr hc))))
             go_wp2_with fail
             go_ret
             exact ⟨ret_int HF.out.symm, HW5.out⟩
            have HS2 := Lib.hid (HSTEP.out fun ⟨_, h2⟩ => by rw [lowE_iff] at h2; omega)
            clear HSTEP HWR
            go_wp2_with fail
            clear cx cf
            go_roundw
            case rel => exact ⟨j + 1, by omega, by go_num, HS2.out, bx5, bk5, HW5.out⟩
            case measure => simp [intOf]; omega
          ·have HNW : Hid (¬ wrong es e) := Lib.hid (by
            rintro (⟨q, hq, hb⟩ | ⟨f, hf, h1, h2⟩)
            ·exact HNB3.out q hq hb
            ·have := HNL.out f (by rwa [List.take_of_length_le (by omega)])
             exact this ⟨h1, h2⟩)
           have HNO2 : Hid (∀ e ∈ es.take (k + 1), ¬ wrong es e) := Lib.hid fun g hg => by
            rw [HT.out] at hg
            rcases List.mem_append.1 hg with hg | hg
            ·exact HNO.out g hg
            ·rw [List.mem_singleton.1 hg]; exact HNW.out
           go_wp2_with fail
           go_roundw
           case rel => exact ⟨k + 1, by omega, by go_num, HNO2.out, bk1, HBW5.out⟩
           case measure => simp [intOf]; omega
      ·have HFIN := Lib.hid (show val es = 0 from val_zero.2 ⟨hsm, HTX.out, HORD.out, fun e he => HNO.out e (by rwa [List.take_of_length_le (by omega)])⟩)
       go_wp2_with fail
       go_ret
       exact ⟨ret_int HFIN.out.symm, HBW.out⟩
end Go.Proofs.YtihhclhpjgeniaaGreatDoor
namespace Go.Proofs.YtihhclhpjgeniaaGreatDoor
open Go.RowKit Go.Sort
end Go.Proofs.YtihhclhpjgeniaaGreatDoor
namespace Go.Proofs.YtihhclhpjgeniaaGreatDoor
open Go.RowKit Go.Sort
end Go.Proofs.YtihhclhpjgeniaaGreatDoor
namespace Go.Proofs.YtihhclhpjgeniaaGreatDoor
open Go.RowKit Go.Sort
def eqN (a b : Ent) : Bool := decide (a = b)
theorem eqN_iff {a b : Ent} : eqN a b = true ↔ a = b := by simp [eqN]
theorem eqg53 (o : BinOp) (x y : Operand) (xs ys : Array Value) (w : World) : (eqGuard o 47 x y (.agg xs) (.agg ys)).run Tryz.prog w = .ok () w :=
 run_eqGuard_agg w o 47 x y xs ys (by kernel_rfl)
def eqC (a b : Int × Int × Int) : Bool := decide (a = b)
abbrev cval (a : Int × Int × Int) : Value := .agg #[.int .i64 a.1, .int .i64 a.2.1, .int .i64 a.2.2]
theorem info3i : ∃ i, Tryz.prog.info? 3 = some i := Option.isSome_iff_exists.1 (by kernel_rfl)
theorem eqi35 (a b : Int × Int × Int) (d : Nat) (w : World) : (Op.equalIn (d + 2) 45 (cval a) (cval b)).run Tryz.prog w = .ok (eqC a b) w := by
 obtain ⟨i, hi⟩ := info3i
 rw [run_equalIn_array w (d + 1) _ _ (show Tryz.prog.underlying 45 = some (.array 3 3) by kernel_rfl) hi]
 have hc : Tryz.prog.cellsOf 3 = 1 := by kernel_rfl
 have h3 : Tryz.prog.underlying 3 = some (.int .i64) := by kernel_rfl
 rw [hc]
 obtain ⟨a1, a2, a3⟩ := a
 obtain ⟨b1, b2, b3⟩ := b
 have hr : List.range 3 = [0, 1, 2] := rfl
 rw [hr]
 simp [go_sem, Op.eqItems, h3, eqC]
 by_cases h1 : a1 = b1 <;> by_cases h2 : a2 = b2 <;> by_cases h3 : a3 = b3 <;> simp [h1, h2, h3]
theorem bytes_toList_inj {a b : ByteArray} (h : a.toList = b.toList) : a = b := by
 rw [ByteArray.toList_eq, ByteArray.toList_eq] at h
 obtain ⟨⟨a⟩⟩ := a
 obtain ⟨⟨b⟩⟩ := b
 simp at h
 rw [h]
set_option maxRecDepth 10000 in
theorem eqi53 (a b : Ent) (d : Nat) (w : World) : (Op.equalIn (d + 3) 47 (eval_ a) (eval_ b)).run Tryz.prog w = .ok (eqN a b) w := by
 rw [run_equalIn_struct w (d + 2) 47 _ _ (by kernel_rfl) (by kernel_rfl)]
 have hf : (Tryz.prog.fieldsOf 47).toList = [⟨"Place", 3, 0, false, "", "", 0⟩, ⟨"Seq", 3, 1, false, "", "", 8⟩, ⟨"Seen", 45, 2, false, "", "", 16⟩, ⟨"Text", 9, 5, false, "", "", 40⟩] := by kernel_rfl
 have h3 : Tryz.prog.underlying 3 = some (.int .i64) := by kernel_rfl
 have h9 : Tryz.prog.underlying 9 = some .string := by kernel_rfl
 rw [hf]
 obtain ⟨a1, a2, a3, a4⟩ := a
 obtain ⟨b1, b2, b3, b4⟩ := b
 have he := fun w => eqi35 a3 b3 d w
 have hs : ((a4.toList == b4.toList) : Bool) = decide (a4 = b4) := by
  rw [Bool.eq_iff_iff, beq_iff_eq, decide_eq_true_eq]
  exact ⟨bytes_toList_inj, fun h => by rw [h]⟩
 dsimp only [eval_]
 simp only [Op.eqFields]
 simp [go_sem, h3, h9, he, hs, eqN, eqC]
 by_cases h1 : a1 = b1 <;> by_cases h2 : a2 = b2 <;> by_cases h3 : a3 = b3 <;> by_cases h4 : a4 = b4 <;> simp [h1, h2, h3, h4]
theorem neq53 (a b : Ent) (w : World) : (binOp .neq 47 (eval_ a) (eval_ b)).run Tryz.prog w = .ok (.bool (!eqN a b)) w := by
 rw [run_neq_struct, eqi53 a b 9997 w]; rfl
end Go.Proofs.YtihhclhpjgeniaaGreatDoor
namespace Go.Proofs.YtihhclhpjgeniaaGreatDoor
open Go.RowKit Go.Sort
def clkT (es : List Ent) : Int × Int × Int := if val es = 0 then ((clk es 0 : Nat), (clk es 1 : Nat), (clk es 2 : Nat)) else (0, 0, 0)
theorem clkT_ok {es : List Ent} (h : val es = 0) : clkT es = (((clk es 0 : Nat) : Int), ((clk es 1 : Nat) : Int), ((clk es 2 : Nat) : Int)) := if_pos h
theorem clkT_bad {es : List Ent} (h : val es ≠ 0) : clkT es = (0, 0, 0) := if_neg h
theorem pl_of {es : List Ent} (h : val es = 0) : ∀ e ∈ es, 0 ≤ e.1 ∧ e.1 ≤ 2 := fun e he => by
 obtain ⟨q0, q1, _⟩ := (val_zero.1 h).txt e he
 exact ⟨q0, q1⟩
theorem neB {a b : Int} (h : a ≠ b) : (a != b) = true := by simpa using h
theorem neBf {a b : Int} (h : a = b) : (a != b) = false := by simp [h]
theorem Clock_any (A : Option Addr) (n c : Nat) (es : List Ent) (w : World) (hl : Reads w w.heap.size 6 A n (ents es)) (hn : n ≤ 1000000) (ht : shortT es) :
  Calls Tryz.prog 231 #[.slice A n c] w fun r w' => r = .returned (.tuple #[cval (clkT es), .int .i64 (val es)]) ∧ Below w.heap.size w w' := by
 have HL := Lib.hid hl
 have HS := Lib.hid ht
 clear hl ht
 go_enter Tryz.func231, Tryz.ntmps231
 go_wp2_with fail
 with_reducible refine (validate_any A n c es _ (HL.out.on (belowA _ _)) hn HS.out).mono ?_
 rintro _ w2 ⟨rfl, hb2⟩
 have b0 := (Box.new w #[.int .i64 0, .int .i64 0, .int .i64 0] 45).below hb2
 have f0 := fz_below (Box.new w #[.int .i64 0, .int .i64 0, .int .i64 0] 45).1 (fz_new _ _ _) hb2
 have HW2 := Lib.hid (below1 _ hb2)
 clear hb2
 by_cases hv : val es = 0
 ·have HV := Lib.hid hv
  have g := neBf hv
  clear hv
  go_wp2_with fail
  have HPL := Lib.hid (pl_of HV.out)
  with_reducible refine (clock_any A n c es _ (HL.out.on HW2.out) hn HPL.out).mono ?_
  rintro _ w3 ⟨rfl, hb3⟩
  have b1 := b0.below hb3
  have f1 := fz_below b0.1 f0 hb3
  have HW3 := Lib.hid (below_trans' HW2.out hb3)
  clear hb3 b0 f0
  have c0 := b1.at
  go_wp2_with fail
  have b2 := ((b1.set (i := 0) (by simp) (.int .i64 (clk es 0 : Nat))).set (i := 1) (by simp) (.int .i64 (clk es 1 : Nat))).set (i := 2) (by simp) (.int .i64 (clk es 2 : Nat))
  have cF := b2.at
  refine bodyPost_ret (v := .tuple #[clkV es, .int .i64 0]) (by simp [results, Tryz.results231, go_sem, cF]) rfl ⟨?_, ((HW3.out.setCell (p := ⟨w.heap.size, 0, none⟩) (Nat.le_refl _) _).setCell (p := ⟨w.heap.size, 1, none⟩) (Nat.le_refl _) _).setCell (p := ⟨w.heap.size, 2, none⟩) (Nat.le_refl _) _⟩
  rw [clkT_ok HV.out, HV.out]
 ·have HV := Lib.hid hv
  have g := neB hv
  clear hv
  have c0 := b0.at
  go_wp2_with fail
  have b2 := ((b0.set (i := 0) (by simp) (.int .i64 0)).set (i := 1) (by simp) (.int .i64 0)).set (i := 2) (by simp) (.int .i64 0)
  have cF := b2.at
  refine bodyPost_ret (v := .tuple #[cval (0, 0, 0), .int .i64 (val es)]) (by simp [results, Tryz.results231, go_sem, cF]) rfl ⟨?_, ((HW2.out.setCell (p := ⟨w.heap.size, 0, none⟩) (Nat.le_refl _) _).setCell (p := ⟨w.heap.size, 1, none⟩) (Nat.le_refl _) _).setCell (p := ⟨w.heap.size, 2, none⟩) (Nat.le_refl _) _⟩
  rw [clkT_bad HV.out]
end Go.Proofs.YtihhclhpjgeniaaGreatDoor
namespace Go.Proofs.YtihhclhpjgeniaaGreatDoor
open Go.RowKit Go.Sort
end Go.Proofs.YtihhclhpjgeniaaGreatDoor
namespace Go.Proofs.YtihhclhpjgeniaaGreatDoor
open Go.RowKit Go.Sort
end Go.Proofs.YtihhclhpjgeniaaGreatDoor
