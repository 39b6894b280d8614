/- Walks: the order of a card's entries, the program's. -/
import Derived.Test.YtpoodhhajghaoaaGreatDoorO2
namespace Go.Proofs.YtpoodhhajghaoaaGreatDoor
open Go.RowKit Go.Sort

theorem info3b : (Tryz.prog.info? 3).map (fun i => (i.zero, i.size, i.bytes)) = some (some (.int .i64 0), 1, 8) := by kernel_rfl
theorem madeCells_zero (n : Nat) : (madeCells #[.int .i64 0] n).toList = ints (List.replicate n 0) := by
  apply List.ext_getElem?
  intro i
  simp [madeCells, ints, List.getElem?_replicate]
  by_cases h : i < n <;> simp [h, Nat.mod_one]
theorem mk46 (n : Nat) (hn : n ≤ 1000000) (w : World) : (Instr.makeSlice 43 (.int .i64 (n : Int)) (.int .i64 (n : Int))).run Tryz.prog w = .ok (.slice (some ⟨w.heap.size, 0, none⟩) n n) (w.alloc (.cells (madeCells #[.int .i64 0] n) 3)) := by
  obtain ⟨i0, hi, hz0, hz1, hz2⟩ := info_parts info3b
  have h := run_make (P := Tryz.prog) w 43 3 i0 _ Tryz.underlying43 hi hz0 .i64 .i64 n n (by omega) (Int.le_refl _) (by rw [hz2]; omega) (by omega)
  rw [hz1, Int.toNat_natCast, Nat.mul_one] at h
  exact h
theorem row_zero (w : World) (n : Nat) (hn : n ≤ 1000000) {base : Nat} (hb : base ≤ w.heap.size) : (w.alloc (.cells (madeCells #[.int .i64 0] n) 3)).ownsRow base 3 1 (.slice (some ⟨w.heap.size, 0, none⟩) n n) n (ints (List.replicate n 0)) := by
  have := World.ownsRow_lit (base := base) (e := 3) (size := 1) w (madeCells #[.int .i64 0] n) n hb (by unfold maxLen; omega) (by rw [size_madeCells]; omega)
  rwa [madeCells_zero] at this
/-- The numbers as far as they are laid. -/
def upL (n k : Nat) : List Int := (List.range n).map fun i => if i < k then (i : Int) else 0
theorem upL_zero (n : Nat) : upL n 0 = List.replicate n 0 := by
  apply List.ext_getElem?
  intro i
  simp [upL, List.getElem?_replicate]
  by_cases h : i < n <;> simp [h]
theorem upL_full (n : Nat) : upL n n = (List.range n).map Int.ofNat := by
  apply List.map_congr_left
  intro i hi
  rw [if_pos (List.mem_range.1 hi)]
  rfl
theorem upL_length (n k : Nat) : (upL n k).length = n := by simp [upL]
theorem upL_set {n k : Nat} (h : k < n) : (ints (upL n k)).set k (.int .i64 (k : Int)) = ints (upL n (k + 1)) := by
  apply List.ext_getElem?
  intro i
  rw [List.getElem?_set]
  simp only [ints, upL, List.getElem?_map, List.length_map, List.length_range]
  by_cases h1 : k = i
  · subst h1
    simp [h]
  · rw [if_neg h1]
    by_cases h2 : i < n
    · simp only [List.getElem?_range h2, Option.map_some]
      by_cases h3 : i < k
      · rw [if_pos h3, if_pos (by omega)]
      · rw [if_neg h3, if_neg (by omega)]
    · rw [List.getElem?_eq_none (by simpa using h2)]
      rfl
theorem ix46 {A : Option Addr} {ad : Addr} {n c k : Nat} (h : A = some ad) (hk : k < n) (w : World) : (Instr.indexAt 43 (.slice A n c) (.int .i64 (k : Int))).run Tryz.prog w = .ok (.pointer (some (ad.add k))) w := by
  subst h
  have h0 : (0 : Int) ≤ (k : Int) ∧ (k : Int) < (n : Int) := by omega
  have hs : (sizeOf (Tryz.prog.elem 43)).run Tryz.prog w = .ok 1 w := by kernel_rfl
  rw [run_indexAt_slice w 43 ad n c .i64 k (by kernel_rfl), if_pos h0, hs]
  simp [Result.andThen]
theorem sortI_none (A : Option Addr) (c : Nat) (f : Value) (w : World) : Calls Tryz.prog 26 #[.slice A 0 c, f] w fun r w' => r = .returned (.tuple #[]) ∧ w' = w :=
  AnyF.slices_SortFunc_none (ρ := sortLayI_ren) { sortLayI with } A c f w
/-- A list of numbers of entries, each one not behind those that come later. -/
def Ordd (es : List Ent) (js : List Nat) : Prop := js.Perm (List.range es.length) ∧ js.Pairwise fun i j => ∀ x y, es[i]? = some x → es[j]? = some y → ¬ aheadE y x
set_option maxRecDepth 100000 in
set_option maxHeartbeats 4000000 in
theorem order_any (A : Option Addr) (n c : Nat) (es : List Ent) (w : World) (hl : Reads w w.heap.size 6 A n (ents es)) (hn : n ≤ 1000000) (ht : ∀ e ∈ es, tame e) :
    Calls Tryz.prog 14 #[.slice A n c] w fun r w' => ∃ A' c' js, r = .returned (.slice A' n c') ∧ Ordd es js ∧ w'.ownsRow w.heap.size 3 1 (.slice A' n c') n (ints (js.map Int.ofNat)) ∧ Below w.heap.size w w' := by
  have hlen := hl.1
  rw [ents_length] at hlen
  have hle : es.length = n := by omega
  have HL := Lib.hid hl
  have HT := Lib.hid ht
  have HLE := Lib.hid hle
  clear hl ht hlen hle
  have M := fun w => mk46 n hn w
  have b0 := Box.new w #[.slice A n c] 22
  have c0 := fun o => (b0.alloc o).at
  have c00 := b0.at
  go_enter Tryz.func14, Tryz.ntmps14
  go_wp2_with fail
  have hr := row_zero (w.alloc (.cells #[.slice A n c] 22)) n hn (base := w.heap.size) (by simp)
  have hb := belowAA w (.cells #[.slice A n c] 22) (.cells (madeCells #[.int .i64 0] n) 3)
  replace b0 := b0.alloc (.cells (madeCells #[.int .i64 0] n) 3)
  rw [World.size_alloc] at hr
  clear c0 c00 M
  generalize (w.alloc (.cells #[.slice A n c] 22)).alloc (.cells (madeCells #[.int .i64 0] n) 3) = w1 at hr hb b0 ⊢
  rw [← upL_zero] at hr
  have HR := Lib.hid hr
  have HB := Lib.hid hb
  clear hr hb
  have hg : w.heap.size + 1 < w1.heap.size := (HR.out.lt _ rfl).2
  go_loopw [4, 10] (fun _ i wr => ∃ k : Nat, k ≤ n ∧ i = .int .i64 k ∧ Box wr w.heap.size #[.slice A n c] ∧ wr.ownsRow w.heap.size 3 1 (.slice (some ⟨w.heap.size + 1, 0, none⟩) n n) n (ints (upL n k)) ∧ Below w.heap.size w wr) (fun _ i _ => n - (intOf i).toNat)
  case atStart => exact ⟨0, by omega, rfl, b0, HR.out, HB.out⟩
  case round =>
    clear b0 HR HB hg
    obtain ⟨k, hk, rfl, b0, hrow, hbw⟩ := hrel
    have HR := Lib.hid hrow
    have HBW := Lib.hid hbw
    clear hrow hbw
    by_cases hlt : k < n
    · have X := fun w' => ix46 (A := some ⟨w.heap.size + 1, 0, none⟩) (c := n) rfl hlt w'
      rw [Addr.add_lit, Nat.zero_add] at X
      obtain ⟨st, gr⟩ := HR.out.stored k (.int .i64 (k : Int))
      rw [upL_set hlt] at st
      have fz := HR.out.frozenAt k
      have cc := HR.out.cellAt k (by omega)
      have hcl : k < (ints (upL n k)).length := by rw [ints_length, upL_length]; exact hlt
      rw [List.getElem?_eq_getElem hcl] at cc
      obtain ⟨u, hu⟩ : ∃ u, wr.cell? ⟨w.heap.size + 1, k, none⟩ = some u := ⟨_, cc⟩
      clear cc hcl
      have HST := Lib.hid st
      have b1 := b0.grown gr (fun j e => by cases e; omega)
      have HB2 := Lib.hid (HBW.out.grown gr HBW.out.size fun j e => by cases e; omega)
      clear st gr b0
      go_wp2_with fail
      go_roundw
      case rel => exact ⟨k + 1, by omega, by go_num, b1, HST.out, HB2.out⟩
      case measure => simp [intOf]; omega
    · have hrow := HR.out
      rw [show k = n by omega, upL_full] at hrow
      replace HR := Lib.hid hrow
      clear hrow
      rcases Nat.eq_zero_or_pos n with h0 | h0
      · subst h0
        have HE : Hid (es = []) := Lib.hid (List.eq_nil_of_length_eq_zero HLE.out)
        go_wp2_with fail
        with_reducible refine (sortI_none (some ⟨w.heap.size + 1, 0, none⟩) 0 (.func (.func 27) #[] #[.pointer (some ⟨w.heap.size, 0, none⟩)]) wr).mono ?_
        rintro _ w' ⟨rfl, rfl⟩
        go_wp2_with fail
        go_ret
        exact ⟨_, _, [], rfl, by rw [HE.out]; exact ⟨List.Perm.refl _, List.Pairwise.nil⟩, HR.out, HBW.out⟩
      · go_wp2_with fail
        have hA : ∀ p, A = some p → p.block ≠ w.heap.size + 1 := fun p hp => by
          obtain ⟨p', hp', hb', _⟩ := HL.out.2 h0
          rw [hp] at hp'
          obtain rfl := Option.some.inj hp'
          omega
        with_reducible refine (sortO_any (bl := w.heap.size) w.heap.size A n c es (w.heap.size + 1) n wr b0 (HL.out.on HBW.out) hA (by omega) HR.out HT.out h0 hn).mono ?_
        rintro _ w' ⟨rfl, js, hp, hpw, hr, hg⟩
        have HP := Lib.hid (show Ordd es js from ⟨by rw [HLE.out]; exact hp, hpw⟩)
        have HR2 := Lib.hid hr
        have HB2 := Lib.hid (HBW.out.grown hg HBW.out.size fun j e => by cases e; omega)
        clear hp hpw hr hg b0
        go_wp2_with fail
        go_ret
        exact ⟨_, _, js, rfl, HP.out, HR2.out, HB2.out⟩
end Go.Proofs.YtpoodhhajghaoaaGreatDoor
