/- Walks: what a copy with a clock lacks, and what stood on the copy when an entry was written; the program's. -/
import Derived.Test.YtlmdmbjdhlgkoaaD2
import Derived.Test.YtlmdmbjdhlgkoaaK2
namespace Go.Proofs.Ytlmdmbjdhlgkoaa
open Go.RowKit Go.Sort

theorem Box.belowB {w w' : World} {b B : Nat} {cs : Array Value} (h : Box w b cs) (hB : b < B) (hb : Below B w w') : Box w' b cs := ⟨Nat.lt_of_lt_of_le h.1 hb.size, fun i => (hb.cell (p := ⟨b, i, none⟩) hB).trans (h.2 i)⟩
theorem Box.lt {w : World} {b : Nat} {cs : Array Value} (h : Box w b cs) : b < w.heap.size := h.1
theorem not_le_lt (a b : Int) : (!decide (a ≤ b)) = decide (b < a) := by
  by_cases h : a ≤ b
  · simp [h]
  · simp [h]; omega
set_option maxRecDepth 100000 in
theorem missing_any (A : Option Addr) (n c : Nat) (es : List Ent) (t : Int × Int × Int) (w : World) (hl : Reads w w.heap.size 6 A n (ents es)) (hn : n ≤ 1000000) (ht : shortT es) :
    Calls Try.prog 37 #[.slice A n c, cval t] w (RetE (misE es (tr t)) (val es) w) := by
  have HL := Lib.hid hl
  have HS := Lib.hid ht
  clear hl ht
  go_enter Try.func37, Try.ntmps37
  dsimp only [cval]
  go_wp2_with fail
  with_reducible refine (validate_any A n c es _ (HL.out.on (belowA _ _)) hn HS.out).mono ?_
  rintro _ w2 ⟨rfl, hb2⟩
  have B0 := Lib.hid ((Box.new w #[.int .i64 t.1, .int .i64 t.2.1, .int .i64 t.2.2] 35).below hb2)
  have HW2 := Lib.hid (below1 _ hb2)
  replace HL := Lib.hid ((HL.out.on (belowA _ _)).on hb2)
  clear hb2
  by_cases hv : val es = 0
  case neg =>
    have HV : Hid (misE es (tr t) = []) := Lib.hid (if_neg hv)
    have g := neB hv
    clear hv
    go_wp2_with fail
    go_ret2
    rw [HV.out]
    exact RetE.nil rfl HW2.out
  have HV := Lib.hid hv
  have HV2 : Hid ((es.filter fun e => !decide (e.2.1 ≤ tr t e.1.toNat)) = misE es (tr t)) := Lib.hid (by
    rw [show misE es (tr t) = misC es (tr t) from if_pos hv]
    unfold misC
    exact List.filter_congr fun e _ => not_le_lt _ _)
  have g := neBf hv
  have HPL := Lib.hid (pl_of hv)
  clear hv
  go_wp2_with fail
  with_reducible refine (clone_any A n c es _ HL.out hn).mono ?_
  rintro _ w4 ⟨B4, d4, rfl, hr4, hb4⟩
  have HR4 := Lib.hid hr4
  have HB4 := Lib.hid hb4
  clear hr4 hb4
  go_wp2_with fail
  with_reducible refine (deleteFunc59_any w2.heap.size ⟨w.heap.size, 0, none⟩ (fun e => decide (e.2.1 ≤ tr t e.1.toNat)) (fun W => Box W w.heap.size #[.int .i64 t.1, .int .i64 t.2.1, .int .i64 t.2.2]) B4 n d4 es _ HR4.out hn HB4.out.size (B0.out.below HB4.out) (fun w1 w2 h1 hb => h1.belowB (Box.lt B0.out) hb) fun e he w1 h1 => missing1_any w.heap.size t e w1 h1 (HPL.out e he).1 (HPL.out e he).2).mono ?_
  rintro _ w5 ⟨rfl, hr5, hb5⟩
  have HR5 := Lib.hid hr5
  have HB5 := Lib.hid hb5
  clear hr5 hb5
  go_wp2_with fail
  go_ret2
  have hr := HR5.out
  rw [HV2.out] at hr
  rw [HV2.out, HV.out]
  exact ⟨B4, d4, rfl, row_mono hr HW2.out.size, below_trans' HW2.out (HB4.out.trans HB5.out)⟩
set_option maxRecDepth 100000 in
theorem knownC_any (A : Option Addr) (n c : Nat) (es : List Ent) (i : Int) (w : World) (hl : Reads w w.heap.size 6 A n (ents es)) (hn : n ≤ 1000000) (ht : shortT es) :
    Calls Try.prog 32 #[.slice A n c, .int .i64 i] w (RetE (knL es i) (knE es i) w) := by
  have hlen := hl.1
  rw [ents_length] at hlen
  have l1 : n ≤ es.length := by omega
  have l2 : es.length ≤ n := by omega
  have HL := Lib.hid hl
  have HS := Lib.hid ht
  clear hl ht hlen
  go_enter Try.func32, Try.ntmps32
  go_wp2_with fail
  with_reducible refine (validate_any A n c es _ HL.out hn HS.out).mono ?_
  rintro _ w2 ⟨rfl, hb2⟩
  have HW2 := Lib.hid hb2
  clear hb2
  by_cases hv : val es = 0
  case neg =>
    have HV := Lib.hid (kn_bad (i := i) hv)
    have g := neB hv
    clear hv
    go_wp2_with fail
    go_ret2
    rw [HV.out.1, HV.out.2]
    exact RetE.nil rfl HW2.out
  have HV := Lib.hid hv
  have g := neBf hv
  have HPL := Lib.hid (pl_of hv)
  clear hv
  by_cases hin : 0 ≤ i ∧ i < es.length
  case neg =>
    have HK := Lib.hid (kn_none HV.out hin)
    have hc : i < 0 ∨ (0 ≤ i ∧ (n : Int) ≤ i) := by omega
    clear hin
    rcases hc with h1 | ⟨h1, h2⟩
    all_goals
      go_wp2_with fail
      go_ret2
      rw [HK.out.1, HK.out.2]
      exact RetE.nil rfl HW2.out
  obtain ⟨i0, i1⟩ := hin
  obtain ⟨j, rfl⟩ := Int.eq_ofNat_of_zero_le i0
  have hjn : j < n := by omega
  have hnj : ¬ n ≤ j := by omega
  obtain ⟨ad, x, e1, hbk, hx, d0, d1, d2, d3, d4, d5⟩ := eat (HL.out.on HW2.out) (k := j) (by omega)
  have X := fun w => ix22 (c := c) e1 hjn w
  have HK := Lib.hid (kn_ok HV.out i0 i1 (e := x) (by simpa using hx))
  have HV2 : Hid ((es.filter fun e => !(!(decide (e = x) || sawE x e))) = knC es x) := Lib.hid (by
    unfold knC
    exact List.filter_congr fun e _ => Bool.not_not _)
  have HV3 : Hid ((es.filter fun e => decide (e = x) || sawE x e) = knC es x) := Lib.hid rfl
  clear i1 hx e1
  have B0 := Lib.hid (Box.new w2 #[.int .i64 x.1, .int .i64 x.2.1, .int .i64 x.2.2.1.1, .int .i64 x.2.2.1.2.1, .int .i64 x.2.2.1.2.2, .string x.2.2.2] 53)
  have HW3 := Lib.hid (below_trans' HW2.out (belowA w2 (.cells #[.int .i64 x.1, .int .i64 x.2.1, .int .i64 x.2.2.1.1, .int .i64 x.2.2.1.2.1, .int .i64 x.2.2.1.2.2, .string x.2.2.2] 53)))
  go_wp2_with fail
  with_reducible refine (clone_any A n c es _ (HL.out.on HW3.out) hn).mono ?_
  rintro _ w4 ⟨B4, d4', rfl, hr4, hb4⟩
  have HR4 := Lib.hid hr4
  have HB4 := Lib.hid hb4
  clear hr4 hb4 d0 d1 d2 d3 d4 d5
  go_wp2_with fail
  with_reducible refine (deleteFunc56_any _ ⟨w2.heap.size, 0, none⟩ (fun e => !(decide (e = x) || sawE x e)) (fun W => Box W w2.heap.size #[.int .i64 x.1, .int .i64 x.2.1, .int .i64 x.2.2.1.1, .int .i64 x.2.2.1.2.1, .int .i64 x.2.2.1.2.2, .string x.2.2.2]) B4 n d4' es _ HR4.out hn HB4.out.size (B0.out.below HB4.out) (fun w1 w2 h1 hb => h1.belowB (Box.lt B0.out) hb) fun e he w1 h1 => known1_any w2.heap.size x e w1 h1 (HPL.out e he).1 (HPL.out e he).2).mono ?_
  rintro _ w5 ⟨rfl, hr5, hb5⟩
  have HR5 := Lib.hid hr5
  have HB5 := Lib.hid hb5
  clear hr5 hb5
  go_wp2_with fail
  go_ret2
  have hr := HR5.out
  rw [HV2.out] at hr
  rw [HV3.out, HK.out.1, HK.out.2]
  exact ⟨B4, d4', rfl, row_mono hr HW3.out.size, below_trans' HW3.out (HB4.out.trans HB5.out)⟩
end Go.Proofs.Ytlmdmbjdhlgkoaa
