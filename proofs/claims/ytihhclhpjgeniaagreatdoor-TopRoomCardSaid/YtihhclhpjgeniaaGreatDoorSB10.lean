/- Merged texts: P3 P4 P5 P6 P7 P8 Q1 Q2 -/
import Derived.Test.YtihhclhpjgeniaaGreatDoorSB2
import Derived.Test.YtihhclhpjgeniaaGreatDoorSB8
import Derived.Test.YtihhclhpjgeniaaGreatDoorSB9
import Derived.Laws.IdiomStrings
import Derived.Laws.BitsAllLaws
import Derived.Shelf.Strings.SlTrimAscii
import Derived.Shelf.Strings.BuilderK
namespace Go.Proofs.YtihhclhpjgeniaaGreatDoor
open Go.RowKit Go.Sort
structure BRow (w : World) (b : Nat) (l : List UInt8) : Prop where
 lt : b < w.heap.size
 cell : ∀ i (h : i < l.length), w.cell? ⟨b, i, none⟩ = some (.int .u8 (l[i].toNat : Int))
 fz : ∀ i, i < l.length → w.frozen? ⟨b, i, none⟩ = false
theorem brow_bytes (w : World) (t : ByteArray) (cap : Nat) (e : TypeId) : BRow (w.alloc (.cells (bytesRow t cap) e ((bytesRow t cap).size, (bytesRow t cap).size + 1))) w.heap.size (liB t) := by
 refine ⟨by simp, fun i h => ?_, fun i h => ?_⟩
 ·rw [World.cell?_alloc_mark]
  have h' : i < t.data.size := by simpa using h
  rw [bytesRow_at t cap i h']
  simp [liB]
 ·have h' : i < t.data.size := by simpa using h
  rw [World.frozen?_alloc_mark]
  have : i < (bytesRow t cap).size := by
   unfold bytesRow
   simp only [Array.size_append, Array.size_map]
   omega
  simp
  omega
theorem BRow.set {w : World} {b : Nat} {l : List UInt8} (h : BRow w b l) {k : Nat} (hk : k < l.length) (c : UInt8) : BRow (w.setCell ⟨b, k, none⟩ (.int .u8 (c.toNat : Int))) b (l.set k c) := by
 refine ⟨by rw [size_set]; exact h.lt, fun i hi => ?_, fun i hi => ?_⟩
 ·rw [List.length_set] at hi
  by_cases e : k = i
  ·subst e
   rw [World.cell?_setCell_same _ _ _ (h.cell k hk)]
   simp
  ·rw [World.cell?_setCell_other _ _ _ _ (fun e2 => e (by injection e2))]
   rw [h.cell i hi]
   simp [e]
 ·rw [List.length_set] at hi
  rw [World.frozen?_setCell]
  exact h.fz i hi
theorem below_set {w w' : World} {B : Nat} {p : Addr} (h : Below B w w') (hp : B ≤ p.block) (v : Value) : Below B w (w'.setCell p v) := h.setCell hp v
def upto (g : UInt8 → UInt8) (l : List UInt8) (k : Nat) : List UInt8 := (l.take k).map g ++ l.drop k
theorem upto_length (g : UInt8 → UInt8) (l : List UInt8) (k : Nat) : (upto g l k).length = l.length := by
 unfold upto; simp; omega
theorem upto_zero (g : UInt8 → UInt8) (l : List UInt8) : upto g l 0 = l := by simp [upto]
theorem upto_all (g : UInt8 → UInt8) (l : List UInt8) : upto g l l.length = l.map g := by simp [upto]
theorem upto_set (g : UInt8 → UInt8) (l : List UInt8) {k : Nat} (h : k < l.length) : (upto g l k).set k (g l[k]) = upto g l (k + 1) := by
 unfold upto
 rw [List.set_append, if_neg (by rw [List.length_map, List.length_take]; omega), List.length_map, List.length_take, show k - min k l.length = 0 by omega, List.drop_eq_getElem_cons h, List.set_cons_zero, List.take_succ_eq_append_getElem h, List.map_append]
 simp only [List.map_cons, List.map_nil, List.append_assoc, List.singleton_append]
theorem upto_at (g : UInt8 → UInt8) (l : List UInt8) {k : Nat} (h : k < l.length) : (upto g l k)[k]? = some l[k] := by
 unfold upto
 rw [List.getElem?_append_right (by rw [List.length_map, List.length_take]; omega), List.length_map, List.length_take, show k - min k l.length = 0 by omega, List.getElem?_drop]
 simp
theorem other_any (c : UInt8) (w : World) : Calls Tryz.prog 337 #[.int .u8 (c.toNat : Int)] w fun r w' => r = .returned (.int .u8 ((c ^^^ 32).toNat : Int)) ∧ w' = w := by
 go_enter Tryz.func337, Tryz.ntmps337
 go_wp2_with fail
 go_ret
 refine ⟨ret_int ?_, rfl⟩
 rw [show (32 : Int) = ((32 : Nat) : Int) from rfl, u8_xor_nat _ _ c.toNat_lt (by decide), UInt8.toNat_xor]
 rfl
theorem other3_any (c : UInt8) (w : World) : Calls Tryz.prog 249 #[.int .u8 (c.toNat : Int)] w fun r w' => r = .returned (.int .u8 ((c ^^^ 3).toNat : Int)) ∧ w' = w := by
 go_enter Tryz.func249, Tryz.ntmps249
 go_wp2_with fail
 go_ret
 refine ⟨ret_int ?_, rfl⟩
 rw [show (3 : Int) = ((3 : Nat) : Int) from rfl, u8_xor_nat _ _ c.toNat_lt (by decide), UInt8.toNat_xor]
 rfl
set_option maxRecDepth 100000 in
set_option maxHeartbeats 4000000 in
theorem exchanged88_any (t : ByteArray) (w : World) (ht : t.size ≤ 1000000) : Calls Tryz.prog 248 #[.string t, .func (.func 249) #[] #[]] w fun r w' => r = .returned (.string (mkB (flL (liB t)))) ∧ Below w.heap.size w w' := by
 have C := run_bytes_of_string (P := Tryz.prog) w 9 190 5 t (by kernel_rfl) (by kernel_rfl) (by kernel_rfl)
 have hb := brow_bytes w.drew t (grownCap w t.size 0 5) 5
 have hw := undrew (belowA w.drew (.cells (bytesRow t (grownCap w t.size 0 5)) 5 ((bytesRow t (grownCap w t.size 0 5)).size, (bytesRow t (grownCap w t.size 0 5)).size + 1)))
 have hsz : w.drew.heap.size = w.heap.size := rfl
 rw [hsz] at hb
 generalize w.drew.alloc (.cells (bytesRow t (grownCap w t.size 0 5)) 5 ((bytesRow t (grownCap w t.size 0 5)).size, (bytesRow t (grownCap w t.size 0 5)).size + 1)) = w1 at C hb hw
 generalize grownCap w t.size 0 5 = cap at C
 have hl := li_size t
 go_enter Tryz.func248, Tryz.ntmps248
 go_wp2_with fail
 go_loopw [12] (fun i wr => ∃ k : Nat, k ≤ t.size ∧ i = .int .i64 k ∧ BRow wr w.heap.size (upto (· ^^^ 3) (liB t) k) ∧ Below w.heap.size w wr) (fun i _ => t.size - (intOf i).toNat)
 case atStart => exact ⟨0, by omega, rfl, by rw [upto_zero]; exact hb, hw⟩
 case round =>
  obtain ⟨k, hk, rfl, hrow, hbw⟩ := hrel
  have HROW := Lib.hid hrow
  have HBW := Lib.hid hbw
  clear hrow hbw hb hw
  by_cases hlt : k < t.size
  ·have hll : k < (liB t).length := by omega
   have hku : k < (upto (· ^^^ 3) (liB t) k).length := by rw [upto_length]; omega
   have c1 : wr.cell? ⟨w.heap.size, k, none⟩ = some (.int .u8 ((liB t)[k].toNat : Int)) := by
    rw [HROW.out.cell k hku]
    have := upto_at (· ^^^ 3) (liB t) hll
    rw [List.getElem?_eq_getElem hku] at this
    rw [Option.some.inj this]
   have f1 := HROW.out.fz k hku
   have HS := Lib.hid (HROW.out.set hku ((liB t)[k] ^^^ 3))
   have HU := Lib.hid (upto_set (· ^^^ 3) (liB t) hll)
   have HB2 := Lib.hid (below_set HBW.out (p := ⟨w.heap.size, k, none⟩) (Nat.le_refl _) (.int .u8 (((liB t)[k] ^^^ 3).toNat : Int)))
   generalize hcc : (liB t)[k] = cc at c1 HS HB2 HU
   go_wp2_with fail
   with_reducible refine (other3_any cc _).mono ?_
   rintro _ w2 ⟨rfl, rfl⟩
   go_wp2_with fail
   go_roundw
   case rel =>
    have := HS.out
    rw [HU.out] at this
    exact ⟨k + 1, by omega, by go_num, this, HB2.out⟩
   case measure => simp [intOf]; omega
  ·obtain rfl : k = t.size := by omega
   have CB := run_convert_bytes_back (P := Tryz.prog) wr 190 9 5 ⟨w.heap.size, 0, none⟩ cap (flL (liB t)) (by kernel_rfl) (by kernel_rfl) (by kernel_rfl) (fun j hj => by
    have hr := HROW.out
    rw [← hl, upto_all] at hr
    rw [show (⟨w.heap.size, 0, none⟩ : Addr).add j = ⟨w.heap.size, j, none⟩ by unfold Addr.add; split <;> simp_all]
    exact hr.cell j hj)
   rw [show (flL (liB t)).length = t.size by rw [← hl]; unfold flL; simp] at CB
   clear C
   go_wp2_with fail
   go_ret
   exact ⟨rfl, HBW.out⟩
set_option maxRecDepth 100000 in
set_option maxHeartbeats 4000000 in
theorem exchanged69_any (t : ByteArray) (w : World) (ht : t.size ≤ 1000000) : Calls Tryz.prog 248 #[.string t, .func (.func 337) #[] #[]] w fun r w' => r = .returned (.string (mkB (miL (liB t)))) ∧ Below w.heap.size w w' := by
 have C := run_bytes_of_string (P := Tryz.prog) w 9 190 5 t (by kernel_rfl) (by kernel_rfl) (by kernel_rfl)
 have hb := brow_bytes w.drew t (grownCap w t.size 0 5) 5
 have hw := undrew (belowA w.drew (.cells (bytesRow t (grownCap w t.size 0 5)) 5 ((bytesRow t (grownCap w t.size 0 5)).size, (bytesRow t (grownCap w t.size 0 5)).size + 1)))
 have hsz : w.drew.heap.size = w.heap.size := rfl
 rw [hsz] at hb
 generalize w.drew.alloc (.cells (bytesRow t (grownCap w t.size 0 5)) 5 ((bytesRow t (grownCap w t.size 0 5)).size, (bytesRow t (grownCap w t.size 0 5)).size + 1)) = w1 at C hb hw
 generalize grownCap w t.size 0 5 = cap at C
 have hl := li_size t
 go_enter Tryz.func248, Tryz.ntmps248
 go_wp2_with fail
 go_loopw [12] (fun i wr => ∃ k : Nat, k ≤ t.size ∧ i = .int .i64 k ∧ BRow wr w.heap.size (upto (· ^^^ 32) (liB t) k) ∧ Below w.heap.size w wr) (fun i _ => t.size - (intOf i).toNat)
 case atStart => exact ⟨0, by omega, rfl, by rw [upto_zero]; exact hb, hw⟩
 case round =>
  obtain ⟨k, hk, rfl, hrow, hbw⟩ := hrel
  have HROW := Lib.hid hrow
  have HBW := Lib.hid hbw
  clear hrow hbw hb hw
  by_cases hlt : k < t.size
  ·have hll : k < (liB t).length := by omega
   have hku : k < (upto (· ^^^ 32) (liB t) k).length := by rw [upto_length]; omega
   have c1 : wr.cell? ⟨w.heap.size, k, none⟩ = some (.int .u8 ((liB t)[k].toNat : Int)) := by
    rw [HROW.out.cell k hku]
    have := upto_at (· ^^^ 32) (liB t) hll
    rw [List.getElem?_eq_getElem hku] at this
    rw [Option.some.inj this]
   have f1 := HROW.out.fz k hku
   have HS := Lib.hid (HROW.out.set hku ((liB t)[k] ^^^ 32))
   have HU := Lib.hid (upto_set (· ^^^ 32) (liB t) hll)
   have HB2 := Lib.hid (below_set HBW.out (p := ⟨w.heap.size, k, none⟩) (Nat.le_refl _) (.int .u8 (((liB t)[k] ^^^ 32).toNat : Int)))
   generalize hcc : (liB t)[k] = cc at c1 HS HB2 HU
   go_wp2_with fail
   with_reducible refine (other_any cc _).mono ?_
   rintro _ w2 ⟨rfl, rfl⟩
   go_wp2_with fail
   go_roundw
   case rel =>
    have := HS.out
    rw [HU.out] at this
    exact ⟨k + 1, by omega, by go_num, this, HB2.out⟩
   case measure => simp [intOf]; omega
  ·obtain rfl : k = t.size := by omega
   have CB := run_convert_bytes_back (P := Tryz.prog) wr 190 9 5 ⟨w.heap.size, 0, none⟩ cap (miL (liB t)) (by kernel_rfl) (by kernel_rfl) (by kernel_rfl) (fun j hj => by
    have hr := HROW.out
    rw [← hl, upto_all] at hr
    rw [show (⟨w.heap.size, 0, none⟩ : Addr).add j = ⟨w.heap.size, j, none⟩ by unfold Addr.add; split <;> simp_all]
    exact hr.cell j hj)
   rw [show (miL (liB t)).length = t.size by rw [← hl]; unfold miL; simp] at CB
   clear C
   go_wp2_with fail
   go_ret
   exact ⟨rfl, HBW.out⟩
theorem madeB_zero (n : Nat) (w : World) (t : TypeId) : BRow (w.alloc (.cells (madeCells #[.int .u8 0] n) t)) w.heap.size (List.replicate n 0) := by
 refine ⟨by simp, fun i h => ?_, fun i _ => fz_new _ _ _ i⟩
 rw [cell_of_row _ _ i _ t (0, 0) (heap_alloc_new w _)]
 have h' : i < n := by simpa using h
 simp [madeCells, h', Nat.mod_one]
theorem mk70 (n : Nat) (hn : n ≤ 1000000) (w : World) : (Instr.makeSlice 190 (.int .i64 (n : Int)) (.int .i64 (n : Int))).run Tryz.prog w = .ok (.slice (some ⟨w.heap.size, 0, none⟩) n n) (w.alloc (.cells (madeCells #[.int .u8 0] n) 5)) := by
 obtain ⟨i0, hi, hz0, hz1, hz2⟩ := info_parts info5b
 have h := run_make (P := Tryz.prog) w 190 5 i0 _ Tryz.underlying190 hi hz0 .i64 .i64 n n (by omega) (Int.le_refl _) (by rw [hz2]; omega) (by omega)
 rw [hz1, Int.toNat_natCast, Nat.mul_one] at h
 exact h
end Go.Proofs.YtihhclhpjgeniaaGreatDoor
namespace Go.Proofs.YtihhclhpjgeniaaGreatDoor
open Go.RowKit Go.Sort
def back (l : List UInt8) (k : Nat) : List UInt8 := List.replicate (l.length - k) 0 ++ (inL l).drop (l.length - k)
theorem inL_length (l : List UInt8) : (inL l).length = l.length := by simp [inL, miL]
theorem back_length (l : List UInt8) (k : Nat) : (back l k).length = l.length := by
 unfold back
 rw [List.length_append, List.length_replicate, List.length_drop, inL_length]
 omega
theorem back_zero (l : List UInt8) : back l 0 = List.replicate l.length 0 := by
 unfold back
 rw [Nat.sub_zero, List.drop_of_length_le (by rw [inL_length]; exact Nat.le_refl _), List.append_nil]
theorem back_all (l : List UInt8) : back l l.length = inL l := by simp [back]
theorem inL_at (l : List UInt8) {k : Nat} (h : k < l.length) (h2 : l.length - 1 - k < (inL l).length) : (inL l)[l.length - 1 - k] = l[k] ^^^ 32 := by
 simp only [inL, List.getElem_reverse, miL, List.length_map, List.getElem_map]
 congr 2
 omega
theorem back_set (l : List UInt8) {k : Nat} (h : k < l.length) : (back l k).set (l.length - 1 - k) (l[k] ^^^ 32) = back l (k + 1) := by
 have h2 : l.length - 1 - k < (inL l).length := by rw [inL_length]; omega
 unfold back
 rw [List.set_append, if_pos (by rw [List.length_replicate]; omega), show l.length - k = (l.length - (k + 1)) + 1 by omega, List.drop_eq_getElem_cons (l := inL l) (i := l.length - (k + 1)) (by rw [inL_length]; omega),
  show l.length - 1 - k = l.length - (k + 1) by omega, List.replicate_succ']
 rw [List.set_append, if_neg (by simp), List.length_replicate, Nat.sub_self, List.set_cons_zero, List.append_assoc, List.singleton_append]
 congr 2
 have := inL_at l h h2
 rw [← this]
 congr 1
 omega
set_option maxRecDepth 100000 in
set_option maxHeartbeats 4000000 in
theorem inverted_any (t : ByteArray) (w : World) (ht : t.size ≤ 1000000) : Calls Tryz.prog 318 #[.string t] w fun r w' => r = .returned (.string (mkB (inL (liB t)))) ∧ Below w.heap.size w w' := by
 have M := mk70 t.size ht w
 have hb := madeB_zero t.size w 5
 have hw := belowA w (.cells (madeCells #[.int .u8 0] t.size) 5)
 generalize w.alloc (.cells (madeCells #[.int .u8 0] t.size) 5) = w1 at M hb hw
 have hl := li_size t
 go_enter Tryz.func318, Tryz.ntmps318
 go_wp2_with fail
 go_loopw [10] (fun i wr => ∃ k : Nat, k ≤ t.size ∧ i = .int .i64 k ∧ BRow wr w.heap.size (back (liB t) k) ∧ Below w.heap.size w wr) (fun i _ => t.size - (intOf i).toNat)
 case atStart => exact ⟨0, by omega, rfl, by rw [back_zero, hl]; exact hb, hw⟩
 case round =>
  obtain ⟨k, hk, rfl, hrow, hbw⟩ := hrel
  have HROW := Lib.hid hrow
  have HBW := Lib.hid hbw
  clear hrow hbw hb hw M
  by_cases hlt : k < t.size
  ·have hll : k < (liB t).length := by omega
   obtain ⟨j, hj⟩ : ∃ j : Nat, t.size = j + 1 + k := ⟨t.size - 1 - k, by omega⟩
   have hku : j < (back (liB t) k).length := by rw [back_length]; omega
   have c1 : ∃ x : Int, wr.cell? ⟨w.heap.size, j, none⟩ = some (.int .u8 x) := ⟨_, HROW.out.cell j hku⟩
   obtain ⟨x, c1⟩ := c1
   have f1 := HROW.out.fz j hku
   have hbs := back_set (liB t) hll
   rw [show (liB t).length - 1 - k = j by omega] at hbs
   have HS := Lib.hid (HROW.out.set hku ((liB t)[k] ^^^ 32))
   have HU := Lib.hid hbs
   have HB2 := Lib.hid (below_set HBW.out (p := ⟨w.heap.size, j, none⟩) (Nat.le_refl _) (.int .u8 (((liB t)[k] ^^^ 32).toNat : Int)))
   have hget : (liB t)[k] = t[k] := by
    have := li_get hlt
    rw [List.getElem?_eq_getElem hll] at this
    exact Option.some.inj this
   rw [hget] at HS HU HB2
   have e1 : (t.size : Int) - 1 - (k : Int) = (j : Int) := by omega
   have j1 : j < t.size := by omega
   clear hbs hj
   go_wp2_with fail
   with_reducible refine (other_any t[k] _).mono ?_
   rintro _ w2 ⟨rfl, rfl⟩
   generalize t[k] ^^^ 32 = d at HS HU HB2 ⊢
   go_wp2_with fail
   go_roundw
   case rel =>
    have := HS.out
    rw [HU.out] at this
    exact ⟨k + 1, by omega, by go_num, this, HB2.out⟩
   case measure => simp [intOf]; omega
  ·obtain rfl : k = t.size := by omega
   have CB := run_convert_bytes_back (P := Tryz.prog) wr 190 9 5 ⟨w.heap.size, 0, none⟩ t.size (inL (liB t)) (by kernel_rfl) (by kernel_rfl) (by kernel_rfl) (fun j hj => by
    have hr := HROW.out
    rw [← hl, back_all] at hr
    rw [show (⟨w.heap.size, 0, none⟩ : Addr).add j = ⟨w.heap.size, j, none⟩ by unfold Addr.add; split <;> simp_all]
    exact hr.cell j hj)
   rw [inL_length, hl] at CB
   go_wp2_with fail
   go_ret
   exact ⟨rfl, HBW.out⟩
theorem mk_append (a b : List UInt8) : mkB a ++ mkB b = mkB (a ++ b) := by
 apply ByteArray.ext
 simp
theorem size_mk (l : List UInt8) : (mkB l).size = l.length := rfl
end Go.Proofs.YtihhclhpjgeniaaGreatDoor
namespace Go.Proofs.YtihhclhpjgeniaaGreatDoor
open Go.RowKit Go.Sort
theorem mirrored_any (t : ByteArray) (w : World) (ht : t.size ≤ 1000000) : Calls Tryz.prog 319 #[.string t] w fun r w' => r = .returned (.string (mkB (miL (liB t)))) ∧ Below w.heap.size w w' := by
 go_enter Tryz.func319, Tryz.ntmps319
 go_wp2_with fail
 with_reducible refine (exchanged69_any t _ ht).mono ?_
 rintro _ w2 ⟨rfl, hb⟩
 have HB := Lib.hid hb
 clear hb
 go_wp2_with fail
 go_ret
 exact ⟨rfl, HB.out⟩
theorem flipped_any (t : ByteArray) (w : World) (ht : t.size ≤ 1000000) : Calls Tryz.prog 190 #[.string t] w fun r w' => r = .returned (.string (mkB (flL (liB t)))) ∧ Below w.heap.size w w' := by
 go_enter Tryz.func190, Tryz.ntmps190
 go_wp2_with fail
 with_reducible refine (exchanged88_any t _ ht).mono ?_
 rintro _ w2 ⟨rfl, hb⟩
 have HB := Lib.hid hb
 clear hb
 go_wp2_with fail
 go_ret
 exact ⟨rfl, HB.out⟩
end Go.Proofs.YtihhclhpjgeniaaGreatDoor
namespace Go.Proofs.YtihhclhpjgeniaaGreatDoor
open Go.RowKit Go.Sort
end Go.Proofs.YtihhclhpjgeniaaGreatDoor
namespace Go.Proofs.YtihhclhpjgeniaaGreatDoor
open Go.RowKit Go.Sort
end Go.Proofs.YtihhclhpjgeniaaGreatDoor
namespace Go.Proofs.YtihhclhpjgeniaaGreatDoor
open Go.RowKit Go.Sort
end Go.Proofs.YtihhclhpjgeniaaGreatDoor
namespace Go.Proofs.YtihhclhpjgeniaaGreatDoor
open Go.RowKit Go.Sort
def isSign (c : UInt8) : Bool := c == 33 || c == 126 || c == 37
theorem trim_signs (l : List UInt8) : Lib.trimLeftS l [33, 126, 37] = l.dropWhile isSign := by
 unfold Lib.trimLeftS
 congr 1
 funext c
 simp only [isSign, Bool.or_assoc, List.contains_cons, List.contains_nil, Bool.or_false]
theorem trimLeft_any (t : List UInt8) (w : World) (ht : t.length ≤ 1000000) : Calls Tryz.prog 331 #[.string (mkB t), .string { data := #[33, 126, 37] }] w fun r w' => r = .returned (.string (mkB (t.dropWhile isSign))) ∧ Below w.heap.size w w' := by
 rcases Nat.eq_zero_or_pos t.length with h0 | h0
 ·obtain rfl : t = [] := List.length_eq_zero_iff.1 h0
  exact (Any.strings_TrimLeft_empty Tryz.lays161 (mkB []) { data := #[33, 126, 37] } w (.inl rfl)).mono fun r w' ⟨h1, h2⟩ => ⟨h1, by rw [h2]; exact Below.refl _ _⟩
 ·refine (Any.strings_TrimLeft_set Tryz.lays161 (fun w => by kernel_rfl) (by kernel_rfl) (mkB t) { data := #[33, 126, 37] } w (by decide) (by rw [size_mk]; exact h0) (by decide) ?_).mono fun r w' ⟨h1, h2⟩ => ⟨?_, by rw [h2]; exact belowAA _ _ _⟩
  ·intro j b hb
   have hm : b ∈ ({ data := #[33, 126, 37] } : ByteArray).data.toList := List.mem_of_getElem? hb
   simp at hm
   rcases hm with rfl | rfl | rfl <;> decide
  ·rw [h1]
   show Ending.returned (.string (mkB (Lib.trimLeftS t [33, 126, 37]))) = _
   rw [trim_signs]
end Go.Proofs.YtihhclhpjgeniaaGreatDoor
namespace Go.Proofs.YtihhclhpjgeniaaGreatDoor
open Go.RowKit Go.Sort
abbrev PR := List UInt8 × Nat × List UInt8
def signW (c : UInt8) (w : List UInt8) : List UInt8 := if c = 33 then inL w else if c = 126 then miL w else if c = 37 then flL w else w
def signsW (ss w : List UInt8) : List UInt8 := ss.foldr signW w
def rep (n : Nat) (w : List UInt8) : List UInt8 := (List.replicate n w).flatten
def isDig (c : UInt8) : Bool := 48 ≤ c.toNat && c.toNat ≤ 57
def pTail (s : List UInt8) (l : Nat) (w : List UInt8) : PR :=
 match s with
 | [] => ([], l, w)
 | c :: u => if isDig c then (u, (c.toNat - 48) * l, rep (c.toNat - 48) w) else (c :: u, l, w)
def pOne (inner : List UInt8 → Option PR) (s : List UInt8) : Option PR :=
 match s.dropWhile isSign with
 | [] => none
 | c :: t =>
  if isL c then some (t, 1, signsW (s.takeWhile isSign) [c])
  else if c = 40 then
   match inner t with
   | some (41 :: u, l, w) => some ((pTail u l w).1, (pTail u l w).2.1, signsW (s.takeWhile isSign) (pTail u l w).2.2)
   | _ => none
  else none
def pItems : Nat → Nat → List UInt8 → Option PR
 | 0, _, _ => none
 | f + 1, d, s =>
  match s with
  | [] => some ([], 0, [])
  | c :: u =>
   if c = 41 then some (c :: u, 0, [])
   else match pOne (fun t => if d < 8 then pItems f (d + 1) t else none) (c :: u) with
    | none => none
    | some (r, l, w) => match pItems f d r with
     | none => none
     | some (r', l', w') => some (r', l + l', w ++ w')
structure Elt where
 signs : List UInt8
 letter : List UInt8
 A : Option Addr
 n : Nat
 c : Nat
 times : Nat
 L : Nat
 W : List UInt8
def Elt.cells (e : Elt) : List Value := [.string (mkB e.signs), .string (mkB e.letter), .slice e.A e.n e.c, .int .i64 (e.times : Int)]
def elts (es : List Elt) : List Value := es.flatMap Elt.cells
def lenE : List Elt → Nat
 | [] => 0
 | e :: es => e.times * (e.letter.length + e.L) + lenE es
def wordE : List Elt → List UInt8
 | [] => []
 | e :: es => signsW e.signs (rep e.times (e.letter ++ e.W)) ++ wordE es
theorem lenE_append (a b : List Elt) : lenE (a ++ b) = lenE a + lenE b := by
 induction a with
 | nil => simp [lenE]
 | cons e l ih => simp only [List.cons_append, lenE, ih]; omega
theorem wordE_append (a b : List Elt) : wordE (a ++ b) = wordE a ++ wordE b := by
 induction a with
 | nil => simp [wordE]
 | cons e l ih => simp only [List.cons_append, wordE, ih, List.append_assoc]
theorem elts_length (es : List Elt) : (elts es).length = es.length * 4 := by
 induction es with
 | nil => rfl
 | cons e l ih =>
  show (e.cells ++ elts l).length = _
  rw [List.length_append, ih]; simp [Elt.cells]; omega
theorem elts_append (a b : List Elt) : elts (a ++ b) = elts a ++ elts b := by simp [elts]
theorem elts_get {es : List Elt} {k i : Nat} (h : k < es.length) (hi : i < 4) : (elts es)[k * 4 + i]? = (es[k].cells)[i]? := by
 induction es generalizing k with
 | nil => simp at h
 | cons e l ih =>
  have hl : e.cells.length = 4 := rfl
  show (e.cells ++ elts l)[k * 4 + i]? = _
  cases k with
  | zero => rw [List.getElem?_append_left (by omega)]; simp
  | succ k =>
   have := ih (k := k) (by simpa using h)
   rw [List.getElem?_append_right (by omega), hl, show (k + 1) * 4 + i - 4 = k * 4 + i by omega]
   simpa using this
def EltOk (e : Elt) : Prop := e.signs.length ≤ 1000000 ∧ e.letter.length ≤ 1 ∧ e.times ≤ 9 ∧ e.n ≤ 1000000
def Its (w : World) (No : Nat → Prop) (B : Nat) : Nat → Option Addr → Nat → List Elt → Prop
 | 0, _, n, es => n = 0 ∧ es = []
 | k + 1, A, n, es => Reads w B 4 A n (elts es) ∧ (0 < n → ∀ p, A = some p → ¬ No p.block) ∧ ∀ e ∈ es, EltOk e ∧ ∃ es', Its w No B k e.A e.n es' ∧ e.L = lenE es' ∧ e.W = wordE es'
theorem Reads.kept2 {w w' : World} {B size n : Nat} {A : Option Addr} {xs : List Value} (h : Reads w B size A n xs) (hk : 0 < n → ∀ q p : Addr, A = some q → p.block = q.block → w'.cell? p = w.cell? p) : Reads w' B size A n xs := by
 refine ⟨h.len, fun h0 => ?_⟩
 obtain ⟨p, hp, hB, hc⟩ := h.look h0
 exact ⟨p, hp, hB, fun j v hj => by rw [hk h0 p (p.add j) hp (blockAdd p j)]; exact hc j v hj⟩
theorem Its.kept {w w' : World} {No : Nat → Prop} {B : Nat} (hk : ∀ p : Addr, p.block < B → ¬ No p.block → w'.cell? p = w.cell? p) : ∀ {k : Nat} {A : Option Addr} {n : Nat} {es : List Elt}, Its w No B k A n es → Its w' No B k A n es
 | 0, _, _, _, h => h
 | k + 1, A, n, es, ⟨h1, h2, h3⟩ => by
  refine ⟨h1.kept2 fun h0 q p hq hp => hk p ?_ ?_, h2, fun e he => ?_⟩
  ·obtain ⟨q', hq', hB, _⟩ := h1.look h0
   rw [hq] at hq'
   obtain rfl := Option.some.inj hq'
   rw [hp]; exact hB
  ·rw [hp]; exact h2 h0 q hq
  ·obtain ⟨h4, es', h5, h6⟩ := h3 e he
   exact ⟨h4, es', Its.kept hk h5, h6⟩
theorem Its.more {w : World} {No : Nat → Prop} {B B' : Nat} (hB : B ≤ B') : ∀ {k : Nat} {A : Option Addr} {n : Nat} {es : List Elt}, Its w No B k A n es → Its w No B' k A n es
 | 0, _, _, _, h => h
 | k + 1, A, n, es, ⟨h1, h2, h3⟩ => ⟨h1.more hB, h2, fun e he => by
   obtain ⟨h4, es', h5, h6⟩ := h3 e he
   exact ⟨h4, es', Its.more hB h5, h6⟩⟩
theorem Its.no {w : World} {No No' : Nat → Prop} {B : Nat} (hN : ∀ k, k < B → No' k → No k) : ∀ {k : Nat} {A : Option Addr} {n : Nat} {es : List Elt}, Its w No B k A n es → Its w No' B k A n es
 | 0, _, _, _, h => h
 | k + 1, A, n, es, ⟨h1, h2, h3⟩ => ⟨h1, fun h0 p hp hn => by
   obtain ⟨q', hq', hB, _⟩ := h1.look h0
   rw [hp] at hq'
   obtain rfl := Option.some.inj hq'
   exact h2 h0 p hp (hN _ hB hn), fun e he => by
   obtain ⟨h4, es', h5, h6⟩ := h3 e he
   exact ⟨h4, es', Its.no hN h5, h6⟩⟩
theorem Its.grown {w w' : World} {No : Nat → Prop} {row : Option Nat} {k : Nat} {A : Option Addr} {n : Nat} {es : List Elt} (h : Its w No w.heap.size k A n es) (hg : w.grownBy w' row) (hr : ∀ r, row = some r → No r) : Its w' No w'.heap.size k A n es :=
 Its.more hg.size (Its.kept (fun p hp hn => hg.cell_far p hp (fun e => hn (hr _ e.symm))) h)
theorem Its.below {w w' : World} {No : Nat → Prop} {k : Nat} {A : Option Addr} {n : Nat} {es : List Elt} (h : Its w No w.heap.size k A n es) (hb : Below w.heap.size w w') : Its w' No w'.heap.size k A n es :=
 Its.more hb.size (Its.kept (fun _ hp _ => hb.cell hp) h)
theorem Its.nil (w : World) (No : Nat → Prop) (B k : Nat) : Its w No B k none 0 [] := by
 cases k with
 | zero => exact ⟨rfl, rfl⟩
 | succ k => exact ⟨Reads.nil, fun h => absurd h (by omega), fun e he => absurd he (by simp)⟩
theorem signW_length (c : UInt8) (w : List UInt8) : (signW c w).length = w.length := by
 unfold signW
 split
 ·exact inL_length w
 ·split
  ·simp [miL]
  ·split
   ·simp [flL]
   ·rfl
theorem signsW_length (ss w : List UInt8) : (signsW ss w).length = w.length := by
 unfold signsW
 induction ss with
 | nil => rfl
 | cons c l ih => rw [List.foldr_cons, signW_length, ih]
theorem rep_length (n : Nat) (w : List UInt8) : (rep n w).length = n * w.length := by
 unfold rep
 induction n with
 | zero => simp
 | succ n ih => rw [List.replicate_succ, List.flatten_cons, List.length_append, ih, Nat.succ_mul]; omega
theorem wordE_length : ∀ {es : List Elt}, (∀ e ∈ es, e.W.length = e.L) → (wordE es).length = lenE es
 | [], _ => rfl
 | e :: es, h => by
  rw [wordE, lenE, List.length_append, signsW_length, rep_length, List.length_append, h e (by simp), wordE_length fun x hx => h x (by simp [hx])]
theorem Its.len {w : World} {No : Nat → Prop} {B : Nat} : ∀ {k : Nat} {A : Option Addr} {n : Nat} {es : List Elt}, Its w No B k A n es → (wordE es).length = lenE es
 | 0, _, _, _, ⟨_, h⟩ => by rw [h]; rfl
 | k + 1, A, n, es, ⟨_, _, h3⟩ => wordE_length fun e he => by
   obtain ⟨_, es', h5, h6, h7⟩ := h3 e he
   rw [h6, h7]; exact Its.len h5
end Go.Proofs.YtihhclhpjgeniaaGreatDoor
