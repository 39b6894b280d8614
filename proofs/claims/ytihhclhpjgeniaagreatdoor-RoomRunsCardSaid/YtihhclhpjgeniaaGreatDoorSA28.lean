/- Merged texts: Gg C11 -/
import Derived.Test.YtihhclhpjgeniaaGreatDoorSA4
import Derived.Test.YtihhclhpjgeniaaGreatDoorSA6
import Derived.Test.YtihhclhpjgeniaaGreatDoorSA7
import Derived.Test.YtihhclhpjgeniaaGreatDoorSA8
import Derived.Test.YtihhclhpjgeniaaGreatDoorSA27
namespace Go.Proofs.YtihhclhpjgeniaaGreatDoor
open Go.RowKit Go.Sort
theorem card_short {c : List Ent} (h : Card c) : shortT c := fun e he => by
  have h1 := (h.txt e he).2.2
  unfold right at h1
  rw [decide_eq_true_eq] at h1
  have := h1.1
  unfold edgeB at this
  omega
theorem nw_n {x : NW} {w : World} (h : Reads w w.heap.size 6 x.A x.n (ents x.w.card)) : x.n = x.w.card.length := by
  have := h.1
  rw [ents_length] at this; omega
set_option maxRecDepth 100000 in
set_option maxHeartbeats 1000000 in
theorem claimO_any (v : RV) (st : Int) (p : Nat) (x : OV) (a : List UInt8) (w : World) (h : v.In st p w) (hx : x.In w) (ha : x.o.names[0]? = some a) (hok : ∀ y ∈ v.ws, y.w.Ok) (hcash : -1000000000 ≤ v.cash ∧ v.cash ≤ 1000000000) (hl : v.ws.length ≤ 12) :
    Calls Tryz.prog 167 #[.pointer (some ⟨p, 0, none⟩), .agg x.arr] w (RetO v st p w (claimR v.rm a)) := by
  have H0 := Lib.hid h
  have H := Lib.hid (h.below (belowA w (.cells x.arr 114)))
  have HX := Lib.hid (hx.below (belowA w (.cells x.arr 114)))
  have KB := Lib.hid (At.new w x.arr 114)
  clear h hx
  go_enter Tryz.func167, Tryz.ntmps167
  go_wp2_with fail
  with_reducible refine (inR_any v st p x a 3 _ H.out HX.out ha hl).mono ?_
  rintro _ w2 ⟨⟨q, rfl, hq⟩, hb⟩
  have H2 := Lib.hid (H.out.below hb)
  have HX2 := Lib.hid (HX.out.below hb)
  have KB2 := Lib.hid (KB.out.below hb)
  have HB := Lib.hid (below1 _ hb)
  have HQ := Lib.hid hq
  clear hb hq H HX KB
  obtain ⟨e, he⟩ : ∃ e, (inW v.rm a 3).1 = e := ⟨_, rfl⟩
  have HE := Lib.hid he
  rw [he]
  clear he
  by_cases h0 : e = 0
  rotate_left
  · have HL : Hid (claimR v.rm a = (e, v.rm)) := Lib.hid (by unfold claimR; rw [if_pos (by rw [HE.out]; exact h0), HE.out])
    have h1 : (e != 0) = true := by simpa using h0
    go_wp2_with fail
    go_ret
    exact retO_no HL.out H2.out HB.out
  obtain ⟨g, hg, rfl⟩ := HQ.out (by rw [HE.out, h0])
  obtain ⟨y, hy, hyw⟩ := wig_nw (show (inW v.rm a 3).1 = 0 by rw [HE.out, h0])
  have HY := Lib.hid hy
  have HG := Lib.hid hg
  have hrow := H2.out.rw
  rw [hg] at hrow
  have d12 : w2.cell? ⟨g, (inW v.rm a 3).2.1 * 13 + 12, none⟩ = some (.slice y.A y.n y.c) := own_cell nw_len (by omega) hrow hy (j := 12) (by omega)
  have HL0 : Hid (claimR v.rm a = if clk y.w.card 1 ≤ clk y.w.card 0 then (15, v.rm) else (0, { v.rm.setW (inW v.rm a 3).2.1 { y.w with state := 1, price := 0 } with cash := v.rm.cash - y.w.price })) := Lib.hid (by
    unfold claimR; rw [if_neg (by rw [HE.out, h0]; simp), ← hyw])
  have ky := hok y (List.mem_of_getElem? hy)
  have hcd := H2.out.hw y (List.mem_of_getElem? hy)
  have hn60 : y.n ≤ 60 := by rw [nw_n hcd.1]; exact ky.card.len
  have HP := Lib.hid ky.price
  have HCD := Lib.hid ky.card
  have HRD := Lib.hid hcd.1
  clear hy hyw hrow hg ky hcd
  generalize (inW v.rm a 3).2.1 = i at HY HL0 d12 ⊢
  subst h0
  go_wp2_with fail
  have hc := Clock_any y.A y.n y.c y.w.card w2 HRD.out (by omega) (card_short HCD.out)
  rw [val_zero.2 HCD.out, clkT_ok (val_zero.2 HCD.out)] at hc
  with_reducible refine hc.mono ?_
  clear hc
  rintro _ w3 ⟨rfl, hb3⟩
  have H3 := Lib.hid (H2.out.below hb3)
  have HB3 := Lib.hid (below_trans' HB.out hb3)
  clear d12 hb3 H2 HB HX2 KB2 HRD
  have l0 : (clk y.w.card 0 : Int) ≤ 60 := by have := List.length_filter_le (fun e : Ent => decide (e.1 = 0)) y.w.card; have := HCD.out.len; unfold clk; omega
  have l1 : (clk y.w.card 1 : Int) ≤ 60 := by have := List.length_filter_le (fun e : Ent => decide (e.1 = 1)) y.w.card; have := HCD.out.len; unfold clk; omega
  by_cases hs : clk y.w.card 1 ≤ clk y.w.card 0
  · have HL : Hid (claimR v.rm a = (15, v.rm)) := Lib.hid (by rw [HL0.out, if_pos hs])
    have hs' : ((clk y.w.card 1 : Nat) : Int) ≤ ((clk y.w.card 0 : Nat) : Int) := by omega
    go_wp2_with fail
    go_ret
    exact retO_no HL.out (H3.out.below (belowA _ _)) (below_trans' HB3.out (belowA _ _))
  · have HL : Hid (claimR v.rm a = (0, { v.rm.setW i { y.w with state := 1, price := 0 } with cash := v.rm.cash - y.w.price })) := Lib.hid (by rw [HL0.out, if_neg hs])
    have hs' : ((clk y.w.card 0 : Nat) : Int) < ((clk y.w.card 1 : Nat) : Int) := by omega
    clear hs HL0
    go_wp2_with fail
    refine wp_gen (fun W => v.In st p W ∧ Below w.heap.size w W) ⟨H3.out.below (belowA _ _), below_trans' HB3.out (belowA _ _)⟩ ?_
    rintro w4 ⟨h4, hb4⟩
    have H4 := Lib.hid h4
    have HB4 := Lib.hid hb4
    clear h4 hb4 H3 HB3
    have hrow := H4.out.rw
    rw [HG.out] at hrow
    have d11 : w4.cell? ⟨g, i * 13 + 11, none⟩ = some (.int .i64 y.w.price) := own_cell nw_len (by omega) hrow HY.out (j := 11) (by omega)
    have c7 : w4.cell? ⟨p, 7, none⟩ = some (.int .i64 v.cash) := At.cell H4.out.room 7
    have g0 : ∀ d os, (grow (redrawn w4 d) os).cell? ⟨g, i * 13 + 11, none⟩ = some (.int .i64 y.w.price) := rg_cell d11
    have g1 : ∀ d os, (grow (redrawn w4 d) os).cell? ⟨p, 7, none⟩ = some (.int .i64 v.cash) := rg_cell c7
    have v1 : IntKind.i64.wrap (v.cash - y.w.price) = v.cash - y.w.price := IntWalk.i64_in _ (by have := HP.out; omega)
    clear hrow d11 c7
    refine wp_region_qt 12 mixed (by kernel_rfl) ?_
    simp only [List.take_succ_cons, List.take_zero, List.drop_succ_cons, List.drop_zero]
    repeat (go_big_quiet_step (fail))
    refine wpQuiet_nil ?_
    intro w5 hb5
    have H5 := Lib.hid (H4.out.below hb5)
    have HB5 := Lib.hid (below_trans' HB4.out hb5)
    clear hb5 g0 g1 H4 HB4
    have f7 := H5.out.room.fz
    have c7 : w5.cell? ⟨p, 7, none⟩ = some (.int .i64 v.cash) := At.cell H5.out.room 7
    obtain ⟨q1, q2⟩ := H5.out.setN (v' := { v with cash := v.cash - y.w.price }) (s' := st) 7 (.int .i64 (v.cash - y.w.price)) rfl ⟨rfl, rfl, rfl, rfl⟩ ⟨rfl, rfl, rfl, rfl⟩ ⟨rfl, rfl, rfl⟩
    have hrow := q1.rw
    rw [show ({ v with cash := v.cash - y.w.price } : RV).B = v.B from rfl, HG.out] at hrow
    have d10 : (w5.setCell ⟨p, 7, none⟩ (.int .i64 (v.cash - y.w.price))).cell? ⟨g, i * 13 + 10, none⟩ = some (.int .i64 y.w.state) := own_cell nw_len (by omega) hrow HY.out (j := 10) (by omega)
    have d11 : (w5.setCell ⟨p, 7, none⟩ (.int .i64 (v.cash - y.w.price))).cell? ⟨g, i * 13 + 11, none⟩ = some (.int .i64 y.w.price) := own_cell nw_len (by omega) hrow HY.out (j := 11) (by omega)
    have f10 : ∀ j, (w5.setCell ⟨p, 7, none⟩ (.int .i64 (v.cash - y.w.price))).frozen? ⟨g, j, none⟩ = false := fun j => hrow.frozenAt j
    obtain ⟨r1, r2⟩ := wig_end H0.out q1 ((Rs.below HB5.out).trans q2) (fun _ k => k) HG.out HY.out (z := { y with w := { y.w with state := 1, price := 0 } }) (j := 10) (vs := [.int .i64 1, .int .i64 0]) (by simp) rfl (q1.hw y (List.mem_of_getElem? HY.out)) (fun k hk => .inl (.inr ⟨y, List.mem_of_getElem? HY.out, hk⟩))
    have R1 := Lib.hid r1
    have R2 := Lib.hid r2
    clear r1 r2 q1 q2 hrow
    go_wp2_with fail
    go_ret
    rw [HL.out]
    refine ⟨rfl, _, ?_, R1.out, R2.out⟩
    rw [← rm_setW v i { y with w := { y.w with state := 1, price := 0 } }]
    rfl
end Go.Proofs.YtihhclhpjgeniaaGreatDoor
namespace Go.Proofs.YtihhclhpjgeniaaGreatDoor
open Go.RowKit Go.Sort
def RetE (es : List Ent) (e : Int) (w : World) (r : Ending) (w' : World) : Prop :=
  ∃ B d, r = .returned (.tuple #[.slice B es.length d, .int .i64 e]) ∧ w'.ownsRow w.heap.size 47 6 (.slice B es.length d) es.length (ents es) ∧ Below w.heap.size w w'
theorem RetE.nil {e e' : Int} {w w' : World} (h : e' = e) (hb : Below w.heap.size w w') : RetE [] e w (.returned (.tuple #[.slice none 0 0, .int .i64 e'])) w' := ⟨none, 0, by rw [h]; rfl, World.ownsRow_nil _ _ _ _, hb⟩
def addL' (c : List Ent) (p : Int) (t : ByteArray) : List Ent := if addE c p t = 0 then addR c p t else []
structure Clk4 (es : List Ent) (b k : Nat) (w : World) : Prop where
  c0 : w.cell? ⟨b, 0, none⟩ = some (.int .i64 (clk es 0 : Nat))
  c1 : w.cell? ⟨b, 1, none⟩ = some (.int .i64 (clk es 1 : Nat))
  c2 : w.cell? ⟨b, 2, none⟩ = some (.int .i64 (clk es 2 : Nat))
  ck : w.cell? ⟨b, k, none⟩ = some (.int .i64 (clk es k : Nat))
theorem Clk4.of {es : List Ent} {b k : Nat} {w : World} (h : Box w b #[.int .i64 (clk es 0 : Nat), .int .i64 (clk es 1 : Nat), .int .i64 (clk es 2 : Nat)]) (hk : k < 3) : Clk4 es b k w := ⟨h.at 0, h.at 1, h.at 2, clk_cell h hk⟩
theorem Clk4.drew {es : List Ent} {b k : Nat} {w : World} (h : Clk4 es b k w) : Clk4 es b k w.drew := ⟨h.c0, h.c1, h.c2, h.ck⟩
theorem Clk4.grown {es : List Ent} {b k : Nat} {w w' : World} {row : Option Nat} (h : Clk4 es b k w) (hb : b < w.heap.size) (hg : w.grownBy w' row) (hne : ∀ j, row = some j → j ≠ b) : Clk4 es b k w' := by
  have e : ∀ i, w'.cell? ⟨b, i, none⟩ = w.cell? ⟨b, i, none⟩ := fun i => World.cell?_of_block (a := ⟨b, i, none⟩) (hg.block b hb fun e => hne b e.symm rfl)
  exact ⟨(e 0).trans h.c0, (e 1).trans h.c1, (e 2).trans h.c2, (e k).trans h.ck⟩
theorem Clk4.below {es : List Ent} {b k : Nat} {w w' : World} (hb : b < w.heap.size) (h : Clk4 es b k w) (hw : Below w.heap.size w w') : Clk4 es b k w' :=
  ⟨(hw.cell (p := ⟨b, 0, none⟩) hb).trans h.c0, (hw.cell (p := ⟨b, 1, none⟩) hb).trans h.c1, (hw.cell (p := ⟨b, 2, none⟩) hb).trans h.c2, (hw.cell (p := ⟨b, k, none⟩) hb).trans h.ck⟩
set_option maxRecDepth 100000 in
set_option maxHeartbeats 4000000 in
theorem add_any (A : Option Addr) (n c : Nat) (es : List Ent) (p : Int) (t : ByteArray) (w : World) (hl : Reads w w.heap.size 6 A n (ents es)) (hn : n ≤ 1000000) (ht : shortT es) (hs : t.size ≤ 1000000) :
    Calls Tryz.prog 229 #[.slice A n c, .int .i64 p, .string t] w (RetE (addL' es p t) (addE es p t) w) := by
  have hlen := hl.1
  rw [ents_length] at hlen
  have l1 : n ≤ es.length := by omega
  have l2 : es.length ≤ n := by omega
  have HL := Lib.hid hl
  have HS := Lib.hid ht
  clear hl ht hlen
  go_enter Tryz.func229, Tryz.ntmps229
  go_wp2_with fail
  with_reducible refine (validate_any A n c es _ HL.out hn HS.out).mono ?_
  rintro _ w2 ⟨rfl, hb2⟩
  have HW2 := Lib.hid hb2
  clear hb2
  by_cases hv : val es = 0
  case neg =>
    have HV : Hid (addE es p t = val es) := Lib.hid (if_pos hv)
    have HV2 : Hid (addL' es p t = []) := Lib.hid (by unfold addL'; rw [HV.out, if_neg hv])
    have g := neB hv
    clear hv
    go_wp2_with fail
    go_ret2
    rw [HV2.out]
    exact RetE.nil HV.out.symm HW2.out
  have HV := Lib.hid hv
  have g := neBf hv
  have HPL := Lib.hid (pl_of hv)
  have hsm : es.length ≤ 60 := (val_zero.1 hv).len
  have hn60 : n ≤ 60 := by omega
  clear hv
  by_cases hp : 0 ≤ p ∧ p ≤ 2 ∧ right t = true
  case neg =>
    have HV1 : Hid (addE es p t = 1) := Lib.hid (by
      unfold addE
      rw [if_neg (fun h => h HV.out), if_pos]
      cases hr : right t
      · exact .inr (.inr rfl)
      · rw [hr] at hp
        simp at hp
        omega)
    have HV2 : Hid (addL' es p t = []) := Lib.hid (by unfold addL'; rw [HV1.out]; rfl)
    have hc : p < 0 ∨ (0 ≤ p ∧ (2 < p ∨ (p ≤ 2 ∧ right t = false))) := by
      rcases Int.lt_or_le p 0 with h1 | h1
      · exact .inl h1
      rcases Int.lt_or_le 2 p with h2 | h2
      · exact .inr ⟨h1, .inl h2⟩
      refine .inr ⟨h1, .inr ⟨h2, ?_⟩⟩
      cases hr : right t
      · rfl
      · exact (hp ⟨h1, h2, hr⟩).elim
    clear hp
    rcases hc with h1 | ⟨h1, h2 | ⟨h2, h3⟩⟩
    · go_wp2_with fail
      go_ret2
      rw [HV2.out]
      exact RetE.nil HV1.out.symm HW2.out
    · go_wp2_with fail
      go_ret2
      rw [HV2.out]
      exact RetE.nil HV1.out.symm HW2.out
    · have H3 := Lib.hid h3
      clear h3
      go_wp2_with fail
      with_reducible refine (rightText_any t _ hs).mono ?_
      rintro _ w3 ⟨rfl, hb3⟩
      have HW3 := Lib.hid (below_trans' HW2.out hb3)
      rw [H3.out]
      clear hb3
      go_wp2_with fail
      go_ret2
      rw [HV2.out]
      exact RetE.nil HV1.out.symm HW3.out
  obtain ⟨p0, p1, hr⟩ := hp
  obtain ⟨k, rfl⟩ := Int.eq_ofNat_of_zero_le p0
  have HR := Lib.hid hr
  clear hr
  go_wp2_with fail
  with_reducible refine (rightText_any t _ hs).mono ?_
  rintro _ w3 ⟨rfl, hb3⟩
  have HW3 := Lib.hid (below_trans' HW2.out hb3)
  rw [HR.out]
  clear hb3
  by_cases h60 : n = 60
  · have HV1 : Hid (addE es k t = 4) := Lib.hid (by
      unfold addE
      rw [if_neg (fun h => h HV.out), if_neg (by rw [HR.out]; simp; omega), if_pos (by omega)])
    have HV2 : Hid (addL' es k t = []) := Lib.hid (by unfold addL'; rw [HV1.out]; rfl)
    have g60 : ((n : Int) == 60) = true := by simp; omega
    clear h60
    go_wp2_with fail
    go_ret2
    rw [HV2.out]
    exact RetE.nil HV1.out.symm HW3.out
  have HV1 : Hid (addE es k t = 0) := Lib.hid (addE_zero.2 ⟨val_zero.1 HV.out, p0, p1, HR.out, by omega⟩)
  have HV2 : Hid (addL' es k t = addR es k t) := Lib.hid (if_pos HV1.out)
  have HAL := Lib.hid (addR_length (val_zero.1 HV.out) p0 p1 (t := t))
  have g60 : ((n : Int) == 60) = false := by simp; omega
  have hn59 : n < 60 := by omega
  clear h60
  go_wp2_with fail
  with_reducible refine (clock_any A n c es _ (HL.out.on HW3.out) hn HPL.out).mono ?_
  rintro _ w4 ⟨rfl, hb4⟩
  go_wp2_with fail
  have hk3 : k < 3 := by omega
  refine wp_gen (fun W => Box W w4.heap.size #[.int .i64 (clk es 0 : Nat), .int .i64 (clk es 1 : Nat), .int .i64 (clk es 2 : Nat)] ∧ Below w.heap.size w W) ⟨Box.new _ _ _, below_trans' (below_trans' HW3.out hb4) (belowA _ _)⟩ ?_
  rintro w5 ⟨b5, hw5⟩
  have HW5 := Lib.hid hw5
  generalize w4.heap.size = bs at b5 ⊢
  clear hb4 hw5
  have ck := clk_cell b5 hk3
  have cl := clk_le es k
  have ck60 : clk es k ≤ 60 := by omega
  have hnk : (0 : Int) ≤ (clk es k : Nat) := by omega
  clear ck cl
  have Z := fun w => ix35z bs k hk3 w
  have vk : IntKind.i64.wrap ((clk es k : Nat) + 1) = (clk es k : Nat) + 1 := IntWalk.i64_in _ (by omega)
  refine wp_region_hu [0, 2, 3, 4, 5, 6, 7, 8, 9] [1, 10, 11, 12] (fun W => Clk4 es bs k W) mixed (by kernel_rfl) ((Clk4.of b5 hk3).drew) ?_
  repeat
    refine canonH_step (v := ?_) rfl (by rfl) ?_ ?_
    rotate_left
    · intro w hSw
      obtain ⟨s1_, s2_, s3_, s4_⟩ := hSw
      go_simp <;> with_reducible rfl
    simp only [List.getElem_toArray, List.getElem_cons_zero, List.getElem_cons_succ, Act.put, List.setIfInBounds_toArray, List.set_cons_succ, List.set_cons_zero]
  refine canonH_nil ?_
  have hD : Below w5.drew.heap.size w5.drew w5.drew := Below.refl _ _
  have HCLK := Lib.hid ((Clk4.of b5 hk3).drew)
  have HLD := Lib.hid ((HL.out.on HW5.out).drew)
  have hbs : bs < w5.drew.heap.size := b5.1
  have HW5D := Lib.hid (below_drewN' HW5.out 1)
  obtain ⟨q, hq⟩ : ∃ q, q = w5.drew.heap.size := ⟨_, rfl⟩
  have hbq : bs < q := by omega
  have hwq : w.heap.size ≤ q := Nat.le_trans HW5D.out.size (Nat.le_of_eq hq.symm)
  have HQ := Lib.hid hq
  clear hq
  refine tailA_two (t := 1) (t' := 10) (ts1 := [10, 11, 12]) (ts2 := [1, 11, 12]) (by kernel_rfl) rfl rfl rfl rfl ?_ ?_
  · go_wp2_with fail
    with_reducible refine (clone_any A n c es _ HLD.out hn).mono ?_
    rintro _ w6 ⟨B, d, rfl, hr6, hb6⟩
    have HR6 := Lib.hid hr6
    have HB6 := Lib.hid hb6
    clear hr6 hb6
    go_wp2_with fail
    refine ⟨HCLK.out.below hbs HB6.out, ?_⟩
    refine tailA_one (t := 10) (ts' := [11, 12]) (by kernel_rfl) rfl rfl ?_
    go_wp2_with fail
    refine gen_at (fun W => Clk4 es bs k W ∧ W.ownsRow q 47 6 (.slice B n d) n (ents es) ∧ Reads W W.heap.size 6 (some ⟨w6.heap.size, 0, none⟩) 1 (ents [newE es k t]) ∧ Below w.heap.size w W ∧ q ≤ W.heap.size) ⟨(HCLK.out.below hbs HB6.out).below (Nat.lt_of_lt_of_le hbs HB6.out.size) (belowA _ _), row_on (row_mono HR6.out (Nat.le_of_eq HQ.out)) (belowA _ _), reads_new w6 (ents [newE es k t]) 47 6 1 rfl, below_trans' (below_trans' HW5D.out HB6.out) (belowA _ _), by have := HB6.out.size; have := HQ.out; rw [World.size_alloc]; omega⟩ ?_
    generalize w6.heap.size = bN
    clear HR6 HB6 w6
    rintro w7 ⟨hc7, hr7, he7, hb7, hq7⟩
    have HC7 := Lib.hid hc7
    have HR7 := Lib.hid hr7
    have HE7 := Lib.hid he7
    have HB7 := Lib.hid hb7
    clear hc7 hr7 he7 hb7
    refine ⟨HC7.out, ?_⟩
    refine tailA_one (t := 11) (ts' := [12]) (by kernel_rfl) rfl rfl ?_
    refine wpList_pushXn rfl _ _ 44 47 rfl Tryz.underlying44 info53b rfl (Nat.succ_pos _) (by decide) q _ B n d (ents es) _ 1 1 (ents [newE es k t]) rfl HR7.out hq7 rfl HE7.out (fun h => by cases h) (ents_one _) (by omega) ?_
    intro A' c' w8 hr8 hg8 _
    rw [← ents_append] at hr8
    have HR8 := Lib.hid hr8
    have HC8 := Lib.hid (HC7.out)
    have HB8 := Lib.hid (HB7.out.grown hg8 HB7.out.size fun k hk => Nat.le_trans hwq (HR7.out.lt k hk).1)
    clear hr8
    have hC9 : Clk4 es bs k w8 := HC7.out.grown (Nat.lt_of_lt_of_le hbq hq7) hg8 fun j hj e => by have := (HR7.out.lt j hj).1; omega
    have HC9 := Lib.hid hC9
    clear hC9 hg8
    go_wp2_with fail
    refine ⟨HC9.out, ?_⟩
    refine tailA_last (t := 12) (by kernel_rfl) rfl ?_
    go_wp2_with fail
    refine NoPanic.normal ?_
    go_wp2_with fail
    with_reducible refine (sort_any (bl := q) A' (n + 1) c' (es ++ [newE es k t]) _ HR8.out (by omega)).mono ?_
    rintro _ w9 ⟨rfl, es', hp, hsort, hr9, hg9⟩
    have HSRT := Lib.hid (add_sort (val_zero.1 HV.out) p0 p1 hp hsort)
    have HR9 := Lib.hid hr9
    have HB9 := Lib.hid (HB8.out.grown hg9 HB8.out.size fun k hk => Nat.le_trans hwq (HR8.out.lt k hk).1)
    clear hp hsort hr9 hg9
    go_wp2_with fail
    go_ret2
    rw [HV2.out, HV1.out]
    refine ⟨A', c', ?_, ?_, HB9.out⟩
    · rw [HAL.out, show n = es.length by omega]; rfl
    · have := row_mono HR9.out hwq
      rw [HSRT.out] at this
      rwa [HAL.out, show es.length = n by omega]
  · go_wp2_with fail
    refine gen_at (fun W => Clk4 es bs k W ∧ Reads W W.heap.size 6 (some ⟨w5.heap.size, 0, none⟩) 1 (ents [newE es k t]) ∧ Below w5.drew.heap.size w5.drew W) ⟨(HCLK.out.below hbs (belowA _ _)), reads_new w5.drew (ents [newE es k t]) 47 6 1 rfl, belowA _ _⟩ ?_
    generalize w5.heap.size = bN
    rintro w6 ⟨hc6, he6, hb6⟩
    have HC6 := Lib.hid hc6
    have HE6 := Lib.hid he6
    have HB6 := Lib.hid hb6
    have HL6 := Lib.hid (HLD.out.on hb6)
    have hbs6 : bs < w6.heap.size := Nat.lt_of_lt_of_le hbs hb6.size
    clear hc6 he6 hb6
    refine ⟨HC6.out, ?_⟩
    refine tailA_one (t := 1) (ts' := [11, 12]) (by kernel_rfl) rfl rfl ?_
    go_wp2_with fail
    with_reducible refine (clone_any A n c es _ HL6.out hn).mono ?_
    rintro _ w7 ⟨B, d, rfl, hr7, hb7⟩
    have HC7 := Lib.hid (HC6.out.below hbs6 hb7)
    have HR7 := Lib.hid (row_mono hr7 (Nat.le_trans (Nat.le_of_eq HQ.out) HB6.out.size))
    have HE7 := Lib.hid (HE6.out.on hb7)
    have HB7 := Lib.hid (below_trans' (below_trans' HW5D.out HB6.out) hb7)
    have hq7 : q ≤ w7.heap.size := by have := HB6.out.size; have := hb7.size; have := HQ.out; omega
    clear hr7 hb7
    go_wp2_with fail
    refine ⟨HC7.out, ?_⟩
    refine tailA_one (t := 11) (ts' := [12]) (by kernel_rfl) rfl rfl ?_
    refine wpList_pushXn rfl _ _ 44 47 rfl Tryz.underlying44 info53b rfl (Nat.succ_pos _) (by decide) q _ B n d (ents es) _ 1 1 (ents [newE es k t]) rfl HR7.out hq7 rfl HE7.out (fun h => by cases h) (ents_one _) (by omega) ?_
    intro A' c' w8 hr8 hg8 _
    rw [← ents_append] at hr8
    have HR8 := Lib.hid hr8
    have HC8 := Lib.hid (HC7.out)
    have HB8 := Lib.hid (HB7.out.grown hg8 HB7.out.size fun k hk => Nat.le_trans hwq (HR7.out.lt k hk).1)
    clear hr8
    have hC9 : Clk4 es bs k w8 := HC7.out.grown (Nat.lt_of_lt_of_le hbq hq7) hg8 fun j hj e => by have := (HR7.out.lt j hj).1; omega
    have HC9 := Lib.hid hC9
    clear hC9 hg8
    go_wp2_with fail
    refine ⟨HC9.out, ?_⟩
    refine tailA_last (t := 12) (by kernel_rfl) rfl ?_
    go_wp2_with fail
    refine NoPanic.normal ?_
    go_wp2_with fail
    with_reducible refine (sort_any (bl := q) A' (n + 1) c' (es ++ [newE es k t]) _ HR8.out (by omega)).mono ?_
    rintro _ w9 ⟨rfl, es', hp, hsort, hr9, hg9⟩
    have HSRT := Lib.hid (add_sort (val_zero.1 HV.out) p0 p1 hp hsort)
    have HR9 := Lib.hid hr9
    have HB9 := Lib.hid (HB8.out.grown hg9 HB8.out.size fun k hk => Nat.le_trans hwq (HR8.out.lt k hk).1)
    clear hp hsort hr9 hg9
    go_wp2_with fail
    go_ret2
    rw [HV2.out, HV1.out]
    refine ⟨A', c', ?_, ?_, HB9.out⟩
    · rw [HAL.out, show n = es.length by omega]; rfl
    · have := row_mono HR9.out hwq
      rw [HSRT.out] at this
      rwa [HAL.out, show es.length = n by omega]
end Go.Proofs.YtihhclhpjgeniaaGreatDoor
