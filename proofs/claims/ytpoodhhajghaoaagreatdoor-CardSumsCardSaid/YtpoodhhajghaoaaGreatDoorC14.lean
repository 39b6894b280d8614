/- Walks: what two cards have in common and how they are related, the reference's; the first entry with a property. -/
import Derived.Test.YtpoodhhajghaoaaGreatDoorC13
namespace Go.Proofs.YtpoodhhajghaoaaGreatDoor
open Go.RowKit Go.Sort

def meetL (a b : List Ent) : List Ent := if val2 a b = 0 then wo a b true else []
def relN (x y : Nat) : Int := if 0 < x ∧ 0 < y then 3 else if 0 < x then 1 else if 0 < y then 2 else 0
def relV (a b : List Ent) : Int := if val2 a b = 0 then relN (wo a b false).length (wo b a false).length else 0
/-- The first place of an entry with a property, or -1. -/
def IdxF (es : List Ent) (f : Ent → Bool) (i : Int) : Prop := (i = -1 ∧ ∀ e ∈ es, f e = false) ∨ ∃ k : Nat, i = k ∧ ∃ e, es[k]? = some e ∧ f e = true ∧ ∀ x ∈ es.take k, f x = false
set_option maxRecDepth 100000 in
theorem indexFunc68_any (q : Addr) (f : Ent → Bool) (S : World → Prop) (A : Option Addr) (n c : Nat) (es : List Ent) (w : World) (hl : Reads w w.heap.size 6 A n (ents es)) (hn : n ≤ 1000000)
    (hS : S w) (hon : ∀ w1 w2, S w1 → Below w1.heap.size w1 w2 → S w2)
    (hF : ∀ e ∈ es, ∀ w1, S w1 → Calls Tryz.prog 42 #[eval_ e, .pointer (some q)] w1 fun r w' => r = .returned (.bool (f e)) ∧ Below w1.heap.size w1 w') :
    Calls Tryz.prog 41 #[.slice A n c, .func (.func 42) #[] #[.pointer (some q)]] w fun r w' => (∃ i : Int, r = .returned (.int .i64 i) ∧ IdxF es f i) ∧ Below w.heap.size w w' := by
  have hlen0 := hl.1
  rw [ents_length] at hlen0
  have l1 : n ≤ es.length := by omega
  have l2 : es.length ≤ n := by omega
  have HL := Lib.hid hl
  have HS := Lib.hid hS
  have HON := Lib.hid hon
  have HF := Lib.hid hF
  clear hl hlen0 hS hon hF
  go_enter Tryz.func41, Tryz.ntmps41
  go_wp2_with fail
  go_loopw [8] (fun i wr => ∃ k : Nat, k ≤ n ∧ i = .int .i64 k ∧ (∀ x ∈ es.take k, f x = false) ∧ S wr ∧ Below w.heap.size w wr) (fun i _ => n - (intOf i).toNat)
  case atStart => exact ⟨0, by omega, rfl, by simp, HS.out, Below.refl _ _⟩
  case round =>
    obtain ⟨k, hk, rfl, hno, hS, hbw⟩ := hrel
    have HNO := Lib.hid hno
    have HBW := Lib.hid hbw
    have HSW := Lib.hid hS
    clear hno hbw hS
    by_cases hlt : k < n
    · obtain ⟨ad, x, e1, hbk, hx, d0, d1, d2, d3, d4, d5⟩ := eat (HL.out.on HBW.out) (k := k) (by omega)
      have X := fun w => ix22 (c := c) e1 hlt w
      have HT := Lib.hid (take_succ_of hx)
      have HM := Lib.hid (List.mem_of_getElem? hx)
      have HX := Lib.hid hx
      clear hx e1
      go_wp2_with fail
      with_reducible refine (HF.out x HM.out _ HSW.out).mono ?_
      rintro _ w2 ⟨rfl, hb2⟩
      have HS2 := Lib.hid (HON.out _ _ HSW.out hb2)
      have HB2 := Lib.hid (below_trans' HBW.out hb2)
      clear hb2 d0 d1 d2 d3 d4 d5 X
      rcases Bool.eq_false_or_eq_true (f x) with hf | hf
      · have HFX := Lib.hid hf
        rw [hf]
        clear hf
        go_wp2_with fail
        go_ret
        exact ⟨⟨k, rfl, .inr ⟨k, rfl, x, HX.out, HFX.out, HNO.out⟩⟩, HB2.out⟩
      · have HN2 : Hid (∀ y ∈ es.take (k + 1), f y = false) := Lib.hid fun y hy => by
          rw [HT.out] at hy
          rcases List.mem_append.1 hy with hy | hy
          · exact HNO.out y hy
          · rw [List.mem_singleton.1 hy]; exact hf
        rw [hf]
        clear hf
        go_wp2_with fail
        go_roundw
        case rel => exact ⟨k + 1, by omega, by go_num, HN2.out, HS2.out, HB2.out⟩
        case measure => simp [intOf]; omega
    · have HN3 := Lib.hid (show ∀ e ∈ es, f e = false by have := HNO.out; rwa [List.take_of_length_le (by omega)] at this)
      go_wp2_with fail
      go_ret
      exact ⟨⟨-1, rfl, .inl ⟨rfl, HN3.out⟩⟩, HBW.out⟩
theorem cmpK_zero (x y : Ent) : cmpK x y = 0 ↔ x.1 = y.1 ∧ x.2.1 = y.2.1 := by
  unfold cmpK or0 cmpI
  by_cases h1 : x.1 < y.1
  · simp [h1]; omega
  · by_cases h2 : y.1 < x.1
    · simp [h1, h2]; omega
    · have h3 : x.1 = y.1 := by omega
      by_cases h4 : x.2.1 < y.2.1
      · simp [h3, h4]; omega
      · by_cases h5 : y.2.1 < x.2.1
        · simp [h3, h4, h5]; omega
        · simp [h3, h4, h5]; omega
def sameKey (x y : Ent) : Bool := decide (x.1 = y.1 ∧ x.2.1 = y.2.1)
theorem splitF_any (q : Nat) (x y : Ent) (w : World) (hb : Box w q #[.int .i64 x.1, .int .i64 x.2.1, .int .i64 x.2.2.1.1, .int .i64 x.2.2.1.2.1, .int .i64 x.2.2.1.2.2, .string x.2.2.2]) :
    Calls Tryz.prog 42 #[eval_ y, .pointer (some ⟨q, 0, none⟩)] w fun r w' => r = .returned (.bool (sameKey x y)) ∧ Below w.heap.size w w' := by
  have hq := hb.1
  go_enter Tryz.func42, Tryz.ntmps42
  dsimp only [eval_]
  have cx := fun o => (hb.alloc (.cells #[.int .i64 y.1, .int .i64 y.2.1, .int .i64 y.2.2.1.1, .int .i64 y.2.2.1.2.1, .int .i64 y.2.2.1.2.2, .string y.2.2.2] o)).at
  have cy := fun o => (Box.new w #[.int .i64 y.1, .int .i64 y.2.1, .int .i64 y.2.2.1.1, .int .i64 y.2.2.1.2.1, .int .i64 y.2.2.1.2.2, .string y.2.2.2] o).at
  go_wp2_with fail
  with_reducible refine (cmpK_any x y _).mono ?_
  rintro _ w2 ⟨rfl, hb2⟩
  have HB := Lib.hid (below1 _ hb2)
  have HZ := Lib.hid (cmpK_zero x y)
  clear hb2 cx cy
  go_wp2_with fail
  go_ret
  refine ⟨ret_bool ?_, HB.out⟩
  unfold sameKey
  rw [Bool.eq_iff_iff, beq_iff_eq, decide_eq_true_eq]
  exact HZ.out
end Go.Proofs.YtpoodhhajghaoaaGreatDoor
