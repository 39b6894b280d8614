/- Walks: letters exchanged, words turned around; both sides. -/
import Derived.Test.YtgkgloafjhiakaaDoorP2
import Derived.Laws.IdiomStrings
import Derived.Laws.BitsAllLaws
namespace Go.Proofs.YtgkgloafjhiakaaDoor
open Go.RowKit Go.Sort

/-- A row of bytes. -/
structure BRow (w : World) (b : Nat) (l : List UInt8) : Prop where
  lt : b < w.heap.size
  cell : ∀ i (h : i < l.length), w.cell? ⟨b, i, none⟩ = some (.int .u8 (l[i].toNat : Int))
  fz : ∀ i, i < l.length → w.frozen? ⟨b, i, none⟩ = false
theorem brow_bytes (w : World) (t : ByteArray) (cap : Nat) (e : TypeId) : BRow (w.alloc (.cells (bytesRow t cap) e ((bytesRow t cap).size, (bytesRow t cap).size + 1))) w.heap.size (liB t) := by
  refine ⟨by simp, fun i h => ?_, fun i h => ?_⟩
  · rw [World.cell?_alloc_mark]
    have h' : i < t.data.size := by simpa using h
    rw [bytesRow_at t cap i h']
    simp [liB]
  · have h' : i < t.data.size := by simpa using h
    rw [World.frozen?_alloc_mark]
    have : i < (bytesRow t cap).size := by
      unfold bytesRow
      simp only [Array.size_append, Array.size_map]
      omega
    simp
    omega
theorem BRow.set {w : World} {b : Nat} {l : List UInt8} (h : BRow w b l) {k : Nat} (hk : k < l.length) (c : UInt8) : BRow (w.setCell ⟨b, k, none⟩ (.int .u8 (c.toNat : Int))) b (l.set k c) := by
  refine ⟨by rw [size_set]; exact h.lt, fun i hi => ?_, fun i hi => ?_⟩
  · rw [List.length_set] at hi
    by_cases e : k = i
    · subst e
      rw [World.cell?_setCell_same _ _ _ (h.cell k hk)]
      simp
    · rw [World.cell?_setCell_other _ _ _ _ (fun e2 => e (by injection e2))]
      rw [h.cell i hi]
      simp [e]
  · rw [List.length_set] at hi
    rw [World.frozen?_setCell]
    exact h.fz i hi
theorem below_set {w w' : World} {B : Nat} {p : Addr} (h : Below B w w') (hp : B ≤ p.block) (v : Value) : Below B w (w'.setCell p v) := h.setCell hp v
/-- The first k letters changed. -/
def upto (g : UInt8 → UInt8) (l : List UInt8) (k : Nat) : List UInt8 := (l.take k).map g ++ l.drop k
theorem upto_length (g : UInt8 → UInt8) (l : List UInt8) (k : Nat) : (upto g l k).length = l.length := by
  unfold upto; simp; omega
theorem upto_zero (g : UInt8 → UInt8) (l : List UInt8) : upto g l 0 = l := by simp [upto]
theorem upto_all (g : UInt8 → UInt8) (l : List UInt8) : upto g l l.length = l.map g := by simp [upto]
theorem upto_set (g : UInt8 → UInt8) (l : List UInt8) {k : Nat} (h : k < l.length) : (upto g l k).set k (g l[k]) = upto g l (k + 1) := by
  unfold upto
  rw [List.set_append, if_neg (by rw [List.length_map, List.length_take]; omega), List.length_map, List.length_take, show k - min k l.length = 0 by omega, List.drop_eq_getElem_cons h, List.set_cons_zero, List.take_succ_eq_append_getElem h, List.map_append]
  simp only [List.map_cons, List.map_nil, List.append_assoc, List.singleton_append]
theorem upto_at (g : UInt8 → UInt8) (l : List UInt8) {k : Nat} (h : k < l.length) : (upto g l k)[k]? = some l[k] := by
  unfold upto
  rw [List.getElem?_append_right (by rw [List.length_map, List.length_take]; omega), List.length_map, List.length_take, show k - min k l.length = 0 by omega, List.getElem?_drop]
  simp
theorem other_any (c : UInt8) (w : World) : Calls Tryd.prog 69 #[.int .u8 (c.toNat : Int)] w fun r w' => r = .returned (.int .u8 ((c ^^^ 32).toNat : Int)) ∧ w' = w := by
  go_enter Tryd.func69, Tryd.ntmps69
  go_wp2_with fail
  go_ret
  refine ⟨ret_int ?_, rfl⟩
  rw [show (32 : Int) = ((32 : Nat) : Int) from rfl, u8_xor_nat _ _ c.toNat_lt (by decide), UInt8.toNat_xor]
  rfl
theorem other3_any (c : UInt8) (w : World) : Calls Tryd.prog 88 #[.int .u8 (c.toNat : Int)] w fun r w' => r = .returned (.int .u8 ((c ^^^ 3).toNat : Int)) ∧ w' = w := by
  go_enter Tryd.func88, Tryd.ntmps88
  go_wp2_with fail
  go_ret
  refine ⟨ret_int ?_, rfl⟩
  rw [show (3 : Int) = ((3 : Nat) : Int) from rfl, u8_xor_nat _ _ c.toNat_lt (by decide), UInt8.toNat_xor]
  rfl
set_option maxRecDepth 100000 in
set_option maxHeartbeats 4000000 in
theorem exchanged88_any (t : ByteArray) (w : World) (ht : t.size ≤ 1000000) : Calls Tryd.prog 87 #[.string t, .func (.func 88) #[] #[]] w fun r w' => r = .returned (.string (mkB (flL (liB t)))) ∧ Below w.heap.size w w' := by
  have C := run_bytes_of_string (P := Tryd.prog) w 9 70 5 t (by kernel_rfl) (by kernel_rfl) (by kernel_rfl)
  have hb := brow_bytes w.drew t (grownCap w t.size 0 5) 5
  have hw := undrew (belowA w.drew (.cells (bytesRow t (grownCap w t.size 0 5)) 5 ((bytesRow t (grownCap w t.size 0 5)).size, (bytesRow t (grownCap w t.size 0 5)).size + 1)))
  have hsz : w.drew.heap.size = w.heap.size := rfl
  rw [hsz] at hb
  generalize w.drew.alloc (.cells (bytesRow t (grownCap w t.size 0 5)) 5 ((bytesRow t (grownCap w t.size 0 5)).size, (bytesRow t (grownCap w t.size 0 5)).size + 1)) = w1 at C hb hw
  generalize grownCap w t.size 0 5 = cap at C
  have hl := li_size t
  go_enter Tryd.func87, Tryd.ntmps87
  go_wp2_with fail
  go_loopw [12] (fun i wr => ∃ k : Nat, k ≤ t.size ∧ i = .int .i64 k ∧ BRow wr w.heap.size (upto (· ^^^ 3) (liB t) k) ∧ Below w.heap.size w wr) (fun i _ => t.size - (intOf i).toNat)
  case atStart => exact ⟨0, by omega, rfl, by rw [upto_zero]; exact hb, hw⟩
  case round =>
    obtain ⟨k, hk, rfl, hrow, hbw⟩ := hrel
    have HROW := Lib.hid hrow
    have HBW := Lib.hid hbw
    clear hrow hbw hb hw
    by_cases hlt : k < t.size
    · have hll : k < (liB t).length := by omega
      have hku : k < (upto (· ^^^ 3) (liB t) k).length := by rw [upto_length]; omega
      have c1 : wr.cell? ⟨w.heap.size, k, none⟩ = some (.int .u8 ((liB t)[k].toNat : Int)) := by
        rw [HROW.out.cell k hku]
        have := upto_at (· ^^^ 3) (liB t) hll
        rw [List.getElem?_eq_getElem hku] at this
        rw [Option.some.inj this]
      have f1 := HROW.out.fz k hku
      have HS := Lib.hid (HROW.out.set hku ((liB t)[k] ^^^ 3))
      have HU := Lib.hid (upto_set (· ^^^ 3) (liB t) hll)
      have HB2 := Lib.hid (below_set HBW.out (p := ⟨w.heap.size, k, none⟩) (Nat.le_refl _) (.int .u8 (((liB t)[k] ^^^ 3).toNat : Int)))
      generalize hcc : (liB t)[k] = cc at c1 HS HB2 HU
      go_wp2_with fail
      with_reducible refine (other3_any cc _).mono ?_
      rintro _ w2 ⟨rfl, rfl⟩
      go_wp2_with fail
      go_roundw
      case rel =>
        have := HS.out
        rw [HU.out] at this
        exact ⟨k + 1, by omega, by go_num, this, HB2.out⟩
      case measure => simp [intOf]; omega
    · obtain rfl : k = t.size := by omega
      have CB := run_convert_bytes_back (P := Tryd.prog) wr 70 9 5 ⟨w.heap.size, 0, none⟩ cap (flL (liB t)) (by kernel_rfl) (by kernel_rfl) (by kernel_rfl) (fun j hj => by
        have hr := HROW.out
        rw [← hl, upto_all] at hr
        rw [show (⟨w.heap.size, 0, none⟩ : Addr).add j = ⟨w.heap.size, j, none⟩ by unfold Addr.add; split <;> simp_all]
        exact hr.cell j hj)
      rw [show (flL (liB t)).length = t.size by rw [← hl]; unfold flL; simp] at CB
      clear C
      go_wp2_with fail
      go_ret
      exact ⟨rfl, HBW.out⟩
set_option maxRecDepth 100000 in
set_option maxHeartbeats 4000000 in
theorem exchanged69_any (t : ByteArray) (w : World) (ht : t.size ≤ 1000000) : Calls Tryd.prog 87 #[.string t, .func (.func 69) #[] #[]] w fun r w' => r = .returned (.string (mkB (miL (liB t)))) ∧ Below w.heap.size w w' := by
  have C := run_bytes_of_string (P := Tryd.prog) w 9 70 5 t (by kernel_rfl) (by kernel_rfl) (by kernel_rfl)
  have hb := brow_bytes w.drew t (grownCap w t.size 0 5) 5
  have hw := undrew (belowA w.drew (.cells (bytesRow t (grownCap w t.size 0 5)) 5 ((bytesRow t (grownCap w t.size 0 5)).size, (bytesRow t (grownCap w t.size 0 5)).size + 1)))
  have hsz : w.drew.heap.size = w.heap.size := rfl
  rw [hsz] at hb
  generalize w.drew.alloc (.cells (bytesRow t (grownCap w t.size 0 5)) 5 ((bytesRow t (grownCap w t.size 0 5)).size, (bytesRow t (grownCap w t.size 0 5)).size + 1)) = w1 at C hb hw
  generalize grownCap w t.size 0 5 = cap at C
  have hl := li_size t
  go_enter Tryd.func87, Tryd.ntmps87
  go_wp2_with fail
  go_loopw [12] (fun i wr => ∃ k : Nat, k ≤ t.size ∧ i = .int .i64 k ∧ BRow wr w.heap.size (upto (· ^^^ 32) (liB t) k) ∧ Below w.heap.size w wr) (fun i _ => t.size - (intOf i).toNat)
  case atStart => exact ⟨0, by omega, rfl, by rw [upto_zero]; exact hb, hw⟩
  case round =>
    obtain ⟨k, hk, rfl, hrow, hbw⟩ := hrel
    have HROW := Lib.hid hrow
    have HBW := Lib.hid hbw
    clear hrow hbw hb hw
    by_cases hlt : k < t.size
    · have hll : k < (liB t).length := by omega
      have hku : k < (upto (· ^^^ 32) (liB t) k).length := by rw [upto_length]; omega
      have c1 : wr.cell? ⟨w.heap.size, k, none⟩ = some (.int .u8 ((liB t)[k].toNat : Int)) := by
        rw [HROW.out.cell k hku]
        have := upto_at (· ^^^ 32) (liB t) hll
        rw [List.getElem?_eq_getElem hku] at this
        rw [Option.some.inj this]
      have f1 := HROW.out.fz k hku
      have HS := Lib.hid (HROW.out.set hku ((liB t)[k] ^^^ 32))
      have HU := Lib.hid (upto_set (· ^^^ 32) (liB t) hll)
      have HB2 := Lib.hid (below_set HBW.out (p := ⟨w.heap.size, k, none⟩) (Nat.le_refl _) (.int .u8 (((liB t)[k] ^^^ 32).toNat : Int)))
      generalize hcc : (liB t)[k] = cc at c1 HS HB2 HU
      go_wp2_with fail
      with_reducible refine (other_any cc _).mono ?_
      rintro _ w2 ⟨rfl, rfl⟩
      go_wp2_with fail
      go_roundw
      case rel =>
        have := HS.out
        rw [HU.out] at this
        exact ⟨k + 1, by omega, by go_num, this, HB2.out⟩
      case measure => simp [intOf]; omega
    · obtain rfl : k = t.size := by omega
      have CB := run_convert_bytes_back (P := Tryd.prog) wr 70 9 5 ⟨w.heap.size, 0, none⟩ cap (miL (liB t)) (by kernel_rfl) (by kernel_rfl) (by kernel_rfl) (fun j hj => by
        have hr := HROW.out
        rw [← hl, upto_all] at hr
        rw [show (⟨w.heap.size, 0, none⟩ : Addr).add j = ⟨w.heap.size, j, none⟩ by unfold Addr.add; split <;> simp_all]
        exact hr.cell j hj)
      rw [show (miL (liB t)).length = t.size by rw [← hl]; unfold miL; simp] at CB
      clear C
      go_wp2_with fail
      go_ret
      exact ⟨rfl, HBW.out⟩
theorem madeB_zero (n : Nat) (w : World) (t : TypeId) : BRow (w.alloc (.cells (madeCells #[.int .u8 0] n) t)) w.heap.size (List.replicate n 0) := by
  refine ⟨by simp, fun i h => ?_, fun i _ => fz_new _ _ _ i⟩
  rw [cell_of_row _ _ i _ t (0, 0) (heap_alloc_new w _)]
  have h' : i < n := by simpa using h
  simp [madeCells, h', Nat.mod_one]
theorem info5b : (Tryd.prog.info? 5).map (fun i => (i.zero, i.size, i.bytes)) = some (some (.int .u8 0), 1, 1) := by kernel_rfl
theorem mk70 (n : Nat) (hn : n ≤ 1000000) (w : World) : (Instr.makeSlice 70 (.int .i64 (n : Int)) (.int .i64 (n : Int))).run Tryd.prog w = .ok (.slice (some ⟨w.heap.size, 0, none⟩) n n) (w.alloc (.cells (madeCells #[.int .u8 0] n) 5)) := by
  obtain ⟨i0, hi, hz0, hz1, hz2⟩ := info_parts info5b
  have h := run_make (P := Tryd.prog) w 70 5 i0 _ Tryd.underlying70 hi hz0 .i64 .i64 n n (by omega) (Int.le_refl _) (by rw [hz2]; omega) (by omega)
  rw [hz1, Int.toNat_natCast, Nat.mul_one] at h
  exact h
end Go.Proofs.YtgkgloafjhiakaaDoor
