/- Walks: the chapter's first example. -/
import Derived.Test.YtpoodhhajghaoaaGreatDoorC16
namespace Go.Proofs.YtpoodhhajghaoaaGreatDoor
open Go.RowKit Go.Sort

abbrev kw : ByteArray := ⟨#[119, 97, 115, 104]⟩
abbrev kc : ByteArray := ⟨#[99, 117, 116, 32, 50]⟩
abbrev kb : ByteArray := ⟨#[98, 108, 101, 97, 99, 104]⟩
def k1 : Ent := (0, 1, (0, 0, 0), kw)
def k2 : Ent := (1, 1, (1, 0, 0), kc)
def k3 : Ent := (0, 2, (1, 0, 0), kb)
theorem kf1 : addE [] 0 kw = 0 := by decide +kernel
theorem kf2 : addL' [] 0 kw = [k1] := by decide +kernel
theorem kf3 : addE [k1] 1 kc = 0 := by decide +kernel
theorem kf4 : addL' [k1] 1 kc = [k1, k2] := by decide +kernel
theorem kf5 : addE [k1] 0 kb = 0 := by decide +kernel
theorem kf6 : addL' [k1] 0 kb = [k1, k3] := by decide +kernel
theorem kf7 : mrgE [k1, k2] [k1, k3] = 0 := by decide +kernel
theorem kf8 : mrgL [k1, k2] [k1, k3] = [k1, k3, k2] := by decide +kernel
theorem kf9 : val [k1, k3, k2] = 0 := by decide +kernel
theorem kf10 : indN [k1, k3, k2] = 1 := by decide +kernel
theorem ks1 : shortT [k1] := by unfold shortT; decide +kernel
theorem ks2 : shortT [k1, k2] := by unfold shortT; decide +kernel
theorem ks3 : shortT [k1, k3] := by unfold shortT; decide +kernel
theorem ks4 : shortT [k1, k3, k2] := by unfold shortT; decide +kernel
/-- A list of entries in the call's own memory, and no error. -/
def RetK (n : Nat) (es : List Ent) (w : World) (r : Ending) (w' : World) : Prop := ∃ A c, r = .returned (.tuple #[.slice A n c, .int .i64 0]) ∧ Reads w' w'.heap.size 6 A n (ents es) ∧ n ≤ c ∧ Below w.heap.size w w'
theorem RetK.of {n : Nat} {es : List Ent} {w : World} (hn : es.length = n) : ∀ r w', RetE es 0 w r w' → RetK n es w r w' := by
  rintro _ w' ⟨A, c, rfl, hr, hb⟩
  subst hn
  exact ⟨A, c, rfl, Reads.of_own hr, (row_cap hr).1, hb⟩
theorem kAdd1 (w : World) : Calls Tryz.prog 11 #[.slice none 0 0, .int .i64 0, .string kw] w (RetK 1 [k1] w) := by
  have := add_any none 0 0 [] 0 kw w Reads.nil (by omega) (fun e he => by cases he) (by decide)
  rw [kf1, kf2] at this
  exact this.mono (RetK.of rfl)
theorem kAdd2 (A : Option Addr) (c : Nat) (w : World) (hl : Reads w w.heap.size 6 A 1 (ents [k1])) : Calls Tryz.prog 11 #[.slice A 1 c, .int .i64 1, .string kc] w (RetK 2 [k1, k2] w) := by
  have := add_any A 1 c [k1] 1 kc w hl (by omega) ks1 (by decide)
  rw [kf3, kf4] at this
  exact this.mono (RetK.of rfl)
theorem kAdd3 (A : Option Addr) (c : Nat) (w : World) (hl : Reads w w.heap.size 6 A 1 (ents [k1])) : Calls Tryz.prog 11 #[.slice A 1 c, .int .i64 0, .string kb] w (RetK 2 [k1, k3] w) := by
  have := add_any A 1 c [k1] 0 kb w hl (by omega) ks1 (by decide)
  rw [kf5, kf6] at this
  exact this.mono (RetK.of rfl)
theorem kMrg (A B : Option Addr) (c d : Nat) (w : World) (hl : Reads w w.heap.size 6 A 2 (ents [k1, k2])) (hm : Reads w w.heap.size 6 B 2 (ents [k1, k3])) : Calls Tryz.prog 9 #[.slice A 2 c, .slice B 2 d] w (RetK 3 [k1, k3, k2] w) := by
  have := merge_any A B 2 2 c d [k1, k2] [k1, k3] w hl hm (by omega) (by omega) ks2 ks3
  rw [kf7, kf8] at this
  exact this.mono (RetK.of rfl)
theorem kInd (A : Option Addr) (c : Nat) (w : World) (hl : Reads w w.heap.size 6 A 3 (ents [k1, k3, k2])) (hc : 3 ≤ c) : Calls Tryz.prog 12 #[.slice A 3 c] w fun r w' => r = .returned (.tuple #[.int .i64 1, .int .i64 0]) ∧ Below w.heap.size w w' := by
  have := indep_any A 3 c [k1, k3, k2] w hl (by omega) hc ks4
  rwa [kf9, kf10] at this
set_option maxRecDepth 100000 in
theorem known_any (w : World) : Calls Tryz.prog 6 #[] w fun r w' => r = .returned (.bool true) ∧ Below w.heap.size w w' := by
  go_enter Tryz.func6, Tryz.ntmps6
  go_wp2_with fail
  with_reducible refine (kAdd1 _).mono ?_
  rintro _ w2 ⟨A1, c1, rfl, hr1, hc1, hb1⟩
  have HR1 := Lib.hid hr1
  have HB1 := Lib.hid hb1
  clear hr1 hb1 hc1
  go_wp2_with fail
  with_reducible refine (kAdd2 A1 c1 _ HR1.out).mono ?_
  rintro _ w3 ⟨A2, c2, rfl, hr2, hc2, hb2⟩
  have HR2 := Lib.hid hr2
  have HR1b := Lib.hid (HR1.out.on hb2)
  have HB2 := Lib.hid (below_trans' HB1.out hb2)
  clear hr2 hb2 hc2
  go_wp2_with fail
  with_reducible refine (kAdd3 A1 c1 _ HR1b.out).mono ?_
  rintro _ w4 ⟨A3, c3, rfl, hr3, hc3, hb3⟩
  have HR3 := Lib.hid hr3
  have HR2b := Lib.hid (HR2.out.on hb3)
  have HB3 := Lib.hid (below_trans' HB2.out hb3)
  clear hr3 hb3 hc3
  go_wp2_with fail
  with_reducible refine (kMrg A2 A3 c2 c3 _ HR2b.out HR3.out).mono ?_
  rintro _ w5 ⟨A4, c4, rfl, hr4, hc4, hb4⟩
  have HR4 := Lib.hid hr4
  have HR2c := Lib.hid (HR2b.out.on hb4)
  have HB4 := Lib.hid (below_trans' HB3.out hb4)
  clear hr4 hb4
  go_wp2_with fail
  with_reducible refine (kInd A4 c4 _ HR4.out hc4).mono ?_
  rintro _ w6 ⟨rfl, hb5⟩
  have HB5 := Lib.hid (below_trans' HB4.out hb5)
  obtain ⟨ad, e, e1, hbk, he, d0, d1, d2, d3, d4, d5⟩ := eat (HR2c.out.on hb5) (k := 1) (by decide)
  obtain rfl : k2 = e := Option.some.inj he
  have X : ∀ w, (Instr.indexAt 22 (.slice A2 2 c2) (.int .i64 1)).run Tryz.prog w = .ok (.pointer (some (ad.add (1 * 6)))) w := fun w => ix22 (n := 2) (c := c2) (k := 1) e1 (by omega) w
  have E : ∀ w, (binOp .eql 36 (.agg #[.int .i64 1, .int .i64 0, .int .i64 0]) (.agg #[.int .i64 1, .int .i64 0, .int .i64 0])).run Tryz.prog w = .ok (.bool true) w := fun w => (eql35 (1, 0, 0) (1, 0, 0) w).trans (by rw [show eqC (1, 0, 0) (1, 0, 0) = true from by decide])
  have G := eqg35 .eql
  change w6.cell? ⟨_, _, none⟩ = some (.int .i64 1) at d2
  change w6.cell? ⟨_, _, none⟩ = some (.int .i64 0) at d3
  change w6.cell? ⟨_, _, none⟩ = some (.int .i64 0) at d4
  clear hb5 he e1 hbk d0 d1 d5
  generalize ad.add (1 * 6) = p at X d2 d3 d4
  go_wp2_with fail
  go_ret
  exact ⟨rfl, HB5.out⟩
end Go.Proofs.YtpoodhhajghaoaaGreatDoor
