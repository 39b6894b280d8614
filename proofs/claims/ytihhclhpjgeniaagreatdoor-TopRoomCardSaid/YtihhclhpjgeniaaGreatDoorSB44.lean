/- Merged texts: Ud Ue -/
import Derived.Test.YtihhclhpjgeniaaGreatDoorSB5
import Derived.Test.YtihhclhpjgeniaaGreatDoorSB7
import Derived.Test.YtihhclhpjgeniaaGreatDoorSB25
import Derived.Test.YtihhclhpjgeniaaGreatDoorSB40
import Derived.Test.YtihhclhpjgeniaaGreatDoorSB41
namespace Go.Proofs.YtihhclhpjgeniaaGreatDoor
open Go.RowKit Go.Sort
theorem card_n {y : NW} {w : World} (h : Reads w w.heap.size 6 y.A y.n (ents y.w.card)) (hc : Card y.w.card) : y.n ≤ 1000000 := by
 have h1 := h.1
 rw [ents_length] at h1
 have h2 := hc.len
 omega
set_option maxRecDepth 100000 in
set_option maxHeartbeats 1000000 in
theorem balancedR_any (v : RV) (s : Int) (p : Nat) (w : World) (h : v.In s p w) (hg : v.rm.Good) : Calls Tryz.prog 79 #[.pointer (some ⟨p, 0, none⟩)] w fun r w' => r = .returned (.bool true) ∧ Below w.heap.size w w' := by
 have hnb : v.bs.length ≤ 12 := by have := hg.ok.nb; simpa [RV.rm] using this
 have hnw : v.ws.length ≤ 12 := by have := hg.ok.nw; simpa [RV.rm] using this
 have HG := Lib.hid hg
 have H := Lib.hid h
 have HS := Lib.hid (fun j k => hairs_small hg.ok j k)
 have HL := Lib.hid (lost_small hg)
 have HB0 : Hid (v.bought = v.lost + hairsB v.rm.bs + hairsW v.rm.ws) := Lib.hid hg.ok.bal
 obtain ⟨N, hN⟩ : ∃ N, v.bs.length = N := ⟨_, rfl⟩
 obtain ⟨M, hM⟩ : ∃ M, v.ws.length = M := ⟨_, rfl⟩
 have HN := Lib.hid hN
 have HM := Lib.hid hM
 have c1 : w.cell? ⟨p, 6, none⟩ = some (.int .i64 v.lost) := At.cell h.room 6
 have c2 : w.cell? ⟨p, 2, none⟩ = some (.slice v.A N v.ca) := by rw [← hN]; exact At.cell h.room 2
 rw [hN] at hnb
 rw [hM] at hnw
 clear h hg hN hM
 go_enter Tryz.func79, Tryz.ntmps79
 go_wp2_with fail
 clear c1 c2
 go_loopw [3, 19] (fun s i wr => ∃ j : Nat, j ≤ N ∧ i = .int .i64 j ∧ s = .int .i64 (v.lost + hairsB (v.rm.bs.take j)) ∧ Below w.heap.size w wr) (fun _ i _ => N - (intOf i).toNat)
 case atStart => exact ⟨0, Nat.zero_le _, rfl, by simp [hairsB], Below.refl _ _⟩
 case round =>
  obtain ⟨j, hj, rfl, rfl, hb⟩ := hrel
  have HB := Lib.hid hb
  clear hb
  by_cases hlt : j < N
  ·obtain ⟨b, hb⟩ : ∃ b, v.bs[j]? = some b := ⟨v.bs[j]'(by rw [HN.out]; exact hlt), List.getElem?_eq_getElem _⟩
   have hb2 : v.rm.bs[j]? = some (b.name, b.v.h) := by show (v.bs.map fun b => (b.name, b.v.h))[j]? = _; rw [List.getElem?_map, hb]; rfl
   have HT : Hid (hairsB (v.rm.bs.take (j + 1)) = hairsB (v.rm.bs.take j) + b.v.h.cnt) := Lib.hid (hairsB_take hb2)
   have hrow := (H.out.below HB.out).rb
   obtain ⟨g, hg⟩ := own_form hrow (by rw [HN.out]; omega)
   rw [HN.out, hg] at hrow
   rw [hg]
   have d0 : wr.cell? ⟨g, j * 3, none⟩ = some (.string (mkB b.name)) := own_cell nb_len (by omega) hrow hb (j := 0) (by omega)
   have d1 : wr.cell? ⟨g, j * 3 + 1, none⟩ = some (.slice b.v.A b.v.n b.v.c) := own_cell nb_len (by omega) hrow hb (j := 1) (by omega)
   have d2 : wr.cell? ⟨g, j * 3 + 2, none⟩ = some (.slice b.v.B b.v.m b.v.d) := own_cell nb_len (by omega) hrow hb (j := 2) (by omega)
   have v0 : IntKind.i64.wrap (v.lost + hairsB (v.rm.bs.take j) + b.v.h.cnt) = v.lost + hairsB (v.rm.bs.take (j + 1)) := by
    have a1 := HS.out j 0
    have a2 := HS.out (j + 1) 0
    have a3 := HL.out
    have a4 : v.rm.lost = v.lost := rfl
    have a5 := HT.out
    rw [IntWalk.i64_in _ (by omega)]; omega
   have v1' : IntKind.i64.wrap ((j : Int) + 1) = ((j + 1 : Nat) : Int) := by rw [IntWalk.i64_in _ (by omega)]; push_cast; rfl
   have k1 := belowA wr (.cells #[.string (mkB b.name), .slice b.v.A b.v.n b.v.c, .slice b.v.B b.v.m b.v.d] 130)
   have HU := Lib.hid (((H.out.hb b (List.mem_of_getElem? hb)).below HB.out).below k1)
   have HB1 := Lib.hid (below_trans' HB.out k1)
   clear hb hb2 hrow k1
   go_wp2_with fail
   with_reducible refine (countB_any b.v _ HU.out).mono ?_
   rintro _ w5 ⟨rfl, hb⟩
   have HB5 := Lib.hid (below_trans' HB1.out hb)
   clear hb d0 d1 d2 hg
   go_wp2_with fail
   exact ⟨⟨j + 1, by omega, by go_num, rfl, HB5.out⟩, by simp [intOf]; omega⟩
  ·obtain rfl : j = N := by omega
   have e : v.rm.bs.take j = v.rm.bs := List.take_of_length_le (by show (v.bs.map _).length ≤ j; rw [List.length_map, HN.out]; exact Nat.le_refl _)
   rw [e]
   have A1 := Lib.hid (HS.out j 0)
   rw [e] at A1
   have c3 : wr.cell? ⟨p, 3, none⟩ = some (.slice v.B M v.cb) := by rw [← HM.out]; exact At.cell (H.out.below HB.out).room 3
   clear e
   go_wp2_with fail
   clear c3
   go_loopw [3, 40] (fun s i wr => ∃ k : Nat, k ≤ M ∧ i = .int .i64 k ∧ s = .int .i64 (v.lost + hairsB v.rm.bs + hairsW (v.rm.ws.take k)) ∧ Below w.heap.size w wr) (fun _ i _ => M - (intOf i).toNat)
   case atStart => exact ⟨0, Nat.zero_le _, rfl, by simp [hairsW], HB.out⟩
   case round =>
    obtain ⟨k, hk, rfl, rfl, hb⟩ := hrel
    have KB := Lib.hid hb
    clear hb HB
    by_cases hlt : k < M
    ·obtain ⟨b, hb⟩ : ∃ x, v.ws[k]? = some x := ⟨v.ws[k]'(by rw [HM.out]; exact hlt), List.getElem?_eq_getElem _⟩
     have hx2 : v.rm.ws[k]? = some b.w := by show (v.ws.map (·.w))[k]? = _; rw [List.getElem?_map, hb]; rfl
     have ok := HG.out.ok.hw b.w (List.mem_of_getElem? hx2)
     have a1 := ok.hairs
     have a2 := ok.shed
     have HT : Hid (hairsW (v.rm.ws.take (k + 1)) = hairsW (v.rm.ws.take k) + (b.w.hairs - b.w.shed)) := Lib.hid (hairsW_take hx2)
     have hrow := (H.out.below KB.out).rw
     obtain ⟨g, hg⟩ := own_form hrow (by rw [HM.out]; omega)
     rw [HM.out, hg] at hrow
     rw [hg]
     have d0 : wr.cell? ⟨g, k * 13, none⟩ = some (.string (mkB b.w.name)) := own_cell nw_len (by omega) hrow hb (j := 0) (by omega)
     have d1 : wr.cell? ⟨g, k * 13 + 1, none⟩ = some (.string (mkB b.w.bun)) := own_cell nw_len (by omega) hrow hb (j := 1) (by omega)
     have d2 : wr.cell? ⟨g, k * 13 + 2, none⟩ = some (.int .i64 b.w.hairs) := own_cell nw_len (by omega) hrow hb (j := 2) (by omega)
     have d3 : wr.cell? ⟨g, k * 13 + 3, none⟩ = some (.int .i64 b.w.done) := own_cell nw_len (by omega) hrow hb (j := 3) (by omega)
     have d4 : wr.cell? ⟨g, k * 13 + 4, none⟩ = some (.int .i64 b.w.shed) := own_cell nw_len (by omega) hrow hb (j := 4) (by omega)
     have d5 : wr.cell? ⟨g, k * 13 + 5, none⟩ = some (.int .i64 b.w.len) := own_cell nw_len (by omega) hrow hb (j := 5) (by omega)
     have d6 : wr.cell? ⟨g, k * 13 + 6, none⟩ = some (.int .i64 b.w.lvl) := own_cell nw_len (by omega) hrow hb (j := 6) (by omega)
     have d7 : wr.cell? ⟨g, k * 13 + 7, none⟩ = some (.int .i64 b.w.tone) := own_cell nw_len (by omega) hrow hb (j := 7) (by omega)
     have d8 : wr.cell? ⟨g, k * 13 + 8, none⟩ = some (.int .i64 b.w.bl) := own_cell nw_len (by omega) hrow hb (j := 8) (by omega)
     have d9 : wr.cell? ⟨g, k * 13 + 9, none⟩ = some (.string (mkB b.w.plait)) := own_cell nw_len (by omega) hrow hb (j := 9) (by omega)
     have d10 : wr.cell? ⟨g, k * 13 + 10, none⟩ = some (.int .i64 b.w.state) := own_cell nw_len (by omega) hrow hb (j := 10) (by omega)
     have d11 : wr.cell? ⟨g, k * 13 + 11, none⟩ = some (.int .i64 b.w.price) := own_cell nw_len (by omega) hrow hb (j := 11) (by omega)
     have d12 : wr.cell? ⟨g, k * 13 + 12, none⟩ = some (.slice b.A b.n b.c) := own_cell nw_len (by omega) hrow hb (j := 12) (by omega)
     have v0 : IntKind.i64.wrap (b.w.hairs - b.w.shed) = b.w.hairs - b.w.shed := IntWalk.i64_in _ (by omega)
     have v1 : IntKind.i64.wrap (v.lost + hairsB v.rm.bs + hairsW (v.rm.ws.take k) + (b.w.hairs - b.w.shed)) = v.lost + hairsB v.rm.bs + hairsW (v.rm.ws.take (k + 1)) := by
      have b1 := A1.out
      have b2 := HS.out 0 k
      have b3 := HL.out
      have b4 : v.rm.lost = v.lost := rfl
      have b5 := HT.out
      rw [IntWalk.i64_in _ (by omega)]; omega
     have v1' : IntKind.i64.wrap ((k : Int) + 1) = ((k + 1 : Nat) : Int) := by rw [IntWalk.i64_in _ (by omega)]; push_cast; rfl
     have k1 := belowA wr (.cells b.arr 126)
     have HC : Hid (val b.w.card = 0) := Lib.hid (val_zero.2 ok.card)
     have HSH := Lib.hid (card_short ok.card)
     have hrd := ((H.out.below KB.out).hw b (List.mem_of_getElem? hb)).1
     have HRD := Lib.hid (hrd.on k1)
     have HN2 := Lib.hid (card_n hrd ok.card)
     have KB1 := Lib.hid (below_trans' KB.out k1)
     clear hb hx2 ok a1 a2 hrow k1 hrd
     go_wp2_with fail
     with_reducible refine (validate_any b.A b.n b.c b.w.card _ HRD.out HN2.out HSH.out).mono ?_
     rintro _ w5 ⟨rfl, hb⟩
     have KB5 := Lib.hid (below_trans' KB1.out hb)
     rw [HC.out]
     clear hb d0 d1 d2 d3 d4 d5 d6 d7 d8 d9 d10 d11 d12 hg
     go_wp2_with fail
     exact ⟨⟨k + 1, by omega, by go_num, rfl, KB5.out⟩, by simp [intOf]; omega⟩
    ·obtain rfl : k = M := by omega
     have e : v.rm.ws.take k = v.rm.ws := List.take_of_length_le (by show (v.ws.map _).length ≤ k; rw [List.length_map, HM.out]; exact Nat.le_refl _)
     have c5 : wr.cell? ⟨p, 5, none⟩ = some (.int .i64 v.bought) := At.cell (H.out.below KB.out).room 5
     rw [e, ← HB0.out]
     clear e
     go_wp2_with fail
     go_ret
     refine ⟨?_, KB.out⟩
     simp
end Go.Proofs.YtihhclhpjgeniaaGreatDoor
namespace Go.Proofs.YtihhclhpjgeniaaGreatDoor
open Go.RowKit Go.Sort
set_option maxRecDepth 100000 in
set_option maxHeartbeats 1000000 in
theorem eqI_any (A B : Option Addr) (n c d : Nat) (xs : List Int) (w : World) (h1 : Reads w w.heap.size 1 A n (ints xs)) (h2 : Reads w w.heap.size 1 B n (ints xs)) (hn : n ≤ 1000000) :
  Calls Tryz.prog 135 #[.slice A n c, .slice B n d] w fun r w' => r = .returned (.bool true) ∧ Below w.heap.size w w' := by
 have hx : xs.length = n := by have := h1.1; rw [ints_length] at this; omega
 have H1 := Lib.hid h1
 have H2 := Lib.hid h2
 have HX := Lib.hid hx
 clear h1 h2 hx
 go_enter Tryz.func135, Tryz.ntmps135
 go_wp2_with fail
 go_loopw [13] (fun i wr => ∃ k : Nat, k ≤ n ∧ i = .int .i64 k ∧ Below w.heap.size w wr) (fun i _ => n - (intOf i).toNat)
 case atStart => exact ⟨0, by omega, rfl, Below.refl _ _⟩
 case round =>
  obtain ⟨k, hk, rfl, hbw⟩ := hrel
  have HW := Lib.hid hbw
  clear hbw
  by_cases hlt : k < n
  ·obtain ⟨a, e1, ha, hc⟩ := (H1.out.on HW.out).2 (by omega)
   obtain ⟨b, e2, hb, hc2⟩ := (H2.out.on HW.out).2 (by omega)
   obtain ⟨z, hz⟩ : ∃ z, xs[k]? = some z := ⟨xs[k]'(by rw [HX.out]; exact hlt), List.getElem?_eq_getElem _⟩
   have g1 : wr.cell? (a.add k) = some (.int .i64 z) := hc k _ (by simp [ints, hz])
   have g2 : wr.cell? (b.add k) = some (.int .i64 z) := hc2 k _ (by simp [ints, hz])
   have X := fun w => ix46 (n := n) (c := c) e1 hlt w
   have Y := fun w => ix46 (n := n) (c := d) e2 hlt w
   clear hc hc2 e1 e2 hz ha hb
   go_wp2_with fail
   go_quiet (fail)
   go_wp2_with fail
   go_roundw
   case rel => exact ⟨k + 1, by omega, by go_num, below_drewN' HW.out _⟩
   case measure => simp [intOf]; omega
  ·go_wp2_with fail
   go_ret
   exact ⟨rfl, HW.out⟩
set_option maxRecDepth 100000 in
set_option maxHeartbeats 1000000 in
theorem eqE_any (A B : Option Addr) (n c d : Nat) (es : List Ent) (w : World) (h1 : Reads w w.heap.size 6 A n (ents es)) (h2 : Reads w w.heap.size 6 B n (ents es)) (hn : n ≤ 1000000) :
  Calls Tryz.prog 138 #[.slice A n c, .slice B n d] w fun r w' => r = .returned (.bool true) ∧ Below w.heap.size w w' := by
 have hx : es.length = n := by have := h1.1; rw [ents_length] at this; omega
 have H1 := Lib.hid h1
 have H2 := Lib.hid h2
 have HX := Lib.hid hx
 clear h1 h2 hx
 go_enter Tryz.func138, Tryz.ntmps138
 go_wp2_with fail
 go_loopw [13] (fun i wr => ∃ k : Nat, k ≤ n ∧ i = .int .i64 k ∧ Below w.heap.size w wr) (fun i _ => n - (intOf i).toNat)
 case atStart => exact ⟨0, by omega, rfl, Below.refl _ _⟩
 case round =>
  obtain ⟨k, hk, rfl, hbw⟩ := hrel
  have HW := Lib.hid hbw
  clear hbw
  by_cases hlt : k < n
  ·obtain ⟨ad, x, e1, hbk, hx, d0, d1, d2, d3, d4, d5⟩ := eat (H1.out.on HW.out) (k := k) (by rw [HX.out]; exact hlt)
   obtain ⟨ad', y, e1', hbk', hy, q0, q1, q2, q3, q4, q5⟩ := eat (H2.out.on HW.out) (k := k) (by rw [HX.out]; exact hlt)
   rw [hx] at hy
   obtain rfl : x = y := Option.some.inj hy
   have X := fun w => ix22 (n := n) (c := c) e1 hlt w
   have Y := fun w => ix22 (n := n) (c := d) e1' hlt w
   have g1 := eqg53 .neq
   have g2 := neq53 x x
   rw [eqN_iff.2 rfl] at g2
   clear hx hy e1 e1' hbk hbk'
   go_wp2_with fail
   go_quiet (fail)
   go_wp2_with fail
   go_roundw
   case rel => exact ⟨k + 1, by omega, by go_num, below_drewN' HW.out _⟩
   case measure => simp [intOf]; omega
  ·go_wp2_with fail
   go_ret
   exact ⟨rfl, HW.out⟩
end Go.Proofs.YtihhclhpjgeniaaGreatDoor
