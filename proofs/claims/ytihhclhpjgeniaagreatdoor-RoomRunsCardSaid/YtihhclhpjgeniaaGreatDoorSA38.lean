/- Merged texts: Gp Hl -/
import Derived.Test.YtihhclhpjgeniaaGreatDoorSA32
import Derived.Test.YtihhclhpjgeniaaGreatDoorSA37
namespace Go.Proofs.YtihhclhpjgeniaaGreatDoor
open Go.RowKit Go.Sort
theorem rm_put (v : RV) (A : Option Addr) (c : Nat) (n : List UInt8) (u : BV) : ({ v with A := A, ca := c, bs := v.bs ++ [⟨n, u⟩], used := v.used ++ [n] } : RV).rm = v.rm.put n u.h := by
  simp [RV.rm, Rm.put]
theorem OS.box {v : RV} {st : Int} {p : Nat} {x : OV} {w : World} (h : v.In st p w) (hx : x.In w) (ht : Tab w) : OS st p w.heap.size v x (w.alloc (.cells x.arr 114)) :=
  ⟨h.below (belowA _ _), hx.below (belowA _ _), At.new _ _ _, tab_below ht (belowA _ _)⟩
set_option maxRecDepth 100000 in
set_option maxHeartbeats 1000000 in
theorem buyO_any (v : RV) (st : Int) (p : Nat) (x : OV) (n : List UInt8) (len c m : Int) (w : World) (h : v.In st p w) (hx : x.In w) (hn : x.o.names[0]? = some n) (ha : x.o.nums = [len, c, m]) (hlen : inN len) (hc : inN c) (hm : inN m) (hnl : n.length ≤ 1000000) (ht : Tab w) (hul : v.used.length ≤ 1000000) (hlb : v.bs.length ≤ 12) (hcash : -1000000000 ≤ v.cash ∧ v.cash ≤ 1000000000) (hbo : 0 ≤ v.bought ∧ v.bought ≤ 1000000000) :
    Calls Tryz.prog 156 #[.pointer (some ⟨p, 0, none⟩), .agg x.arr] w (RetO v st p w (buyR v.rm n len c m)) := by
  have H0 := Lib.hid h
  have HS := Lib.hid (OS.box h hx ht)
  have HB := Lib.hid (belowA w (.cells x.arr 114))
  have HC := Lib.hid hc
  have HM := Lib.hid hm
  have HLN := Lib.hid hlen
  clear h hx hlen hc hm ht
  go_enter Tryz.func156, Tryz.ntmps156
  go_wp2_with fail
  refine gen_at (M := fun W => Code.wp Tryz.prog _ _ _ W) (fun W => OS st p w.heap.size v x W ∧ Below w.heap.size w W) ⟨HS.out, HB.out⟩ ?_
  clear HS HB
  rintro w1 ⟨hs, hb⟩
  have HS := Lib.hid hs
  have HB := Lib.hid hb
  obtain ⟨ad, e1, hc1, hk1, -⟩ := hs.o.name hn
  obtain ⟨ae, e2, hd0, -, -⟩ := hs.o.num (k := 0) (a := len) (by rw [ha]; rfl)
  obtain ⟨ae1, e3, hd1, -, -⟩ := hs.o.num (k := 1) (a := c) (by rw [ha]; rfl)
  obtain ⟨ae2, e4, hd2, -, -⟩ := hs.o.num (k := 2) (a := m) (by rw [ha]; rfl)
  have e5 : ae1 = ae := by rw [e2] at e3; injection e3 with e3; exact e3.symm
  have e6 : ae2 = ae := by rw [e2] at e4; injection e4 with e4; exact e4.symm
  rw [show ad.add 0 = ad from rfl] at hc1
  rw [show ae.add 0 = ae from rfl] at hd0
  rw [e5, show ae.add 1 = ⟨ae.block, ae.off + 1, none⟩ from rfl] at hd1
  rw [e6, show ae.add 2 = ⟨ae.block, ae.off + 2, none⟩ from rfl] at hd2
  have hm3 : x.m = 3 := by rw [hs.o.m, ha]; rfl
  have k0 : (0 : Int) < (x.m : Int) := by rw [hm3]; decide
  have k1 : (1 : Int) < (x.m : Int) := by rw [hm3]; decide
  have k2 : (2 : Int) < (x.m : Int) := by rw [hm3]; decide
  have k3 : (0 : Int) < (x.n : Int) := by omega
  have g0 : ∀ d os, (grow (redrawn w1 d) os).cell? ad = some (.string (mkB n)) := rg_cell hc1
  have g1 : ∀ d os, (grow (redrawn w1 d) os).cell? ae = some (.int .i64 len) := rg_cell hd0
  have g2 : ∀ d os, (grow (redrawn w1 d) os).cell? ⟨ae.block, ae.off + 1, none⟩ = some (.int .i64 c) := rg_cell hd1
  have g3 : ∀ d os, (grow (redrawn w1 d) os).cell? ⟨ae.block, ae.off + 2, none⟩ = some (.int .i64 m) := rg_cell hd2
  have g4 : ∀ d os, (grow (redrawn w1 d) os).cell? ⟨w.heap.size, 3, none⟩ = some (.slice x.A x.n x.c) := rg_cell (hs.k.cell 3)
  have g5 : ∀ d os, (grow (redrawn w1 d) os).cell? ⟨w.heap.size, 5, none⟩ = some (.slice x.B x.m x.d) := rg_cell (hs.k.cell 5)
  rw [e1] at g4
  rw [e2] at g5
  clear hs hb hc1 hk1 hd0 hd1 hd2 e3 e4 e5 e6 hm3
  refine wp_region_qb mixed (by kernel_rfl) ?_
  repeat (go_big_quiet_step (fail))
  refine wpQuiet_nil ?_
  intro w2 hb2
  have HS2 := Lib.hid (HS.out.below hb2)
  have HB2 := Lib.hid (below_trans' HB.out hb2)
  clear hb2 g0 g1 g2 g3 g4 g5 HS HB k0 k1 k2 k3 e1 e2
  go_wp2_with fail
  with_reducible refine (freshR_any v st p n w2 HS2.out.a hnl).mono ?_
  rintro _ w3 ⟨rfl, rfl⟩
  obtain ⟨f, hf⟩ : ∃ f, v.rm.fresh n = f := ⟨_, rfl⟩
  have HF := Lib.hid hf
  rw [hf]
  clear hf
  cases f with
  | false =>
    have HL : Hid (buyR v.rm n len c m = (2, v.rm)) := Lib.hid (by unfold buyR; rw [if_pos HF.out])
    go_wp2_with fail
    go_ret
    exact retO_no HL.out HS2.out.a HB2.out
  | true =>
    by_cases h1 : len < 1
    · have HL : Hid (buyR v.rm n len c m = (1, v.rm)) := Lib.hid (by unfold buyR; rw [if_neg (by rw [HF.out]; simp), if_pos (.inl h1)])
      go_wp2_with fail
      go_ret
      exact retO_no HL.out HS2.out.a HB2.out
    by_cases h2 : 24 < len
    · have HL : Hid (buyR v.rm n len c m = (1, v.rm)) := Lib.hid (by unfold buyR; rw [if_neg (by rw [HF.out]; simp), if_pos (.inr (.inl h2))])
      go_wp2_with fail
      go_ret
      exact retO_no HL.out HS2.out.a HB2.out
    by_cases h3 : c = 0
    · have h3' : (c == 0) = true := by simpa using h3
      have HL : Hid (buyR v.rm n len c m = (1, v.rm)) := Lib.hid (by unfold buyR; rw [if_neg (by rw [HF.out]; simp), if_pos (.inr (.inr h3))])
      go_wp2_with fail
      go_ret
      exact retO_no HL.out HS2.out.a HB2.out
    have h3' : (c == 0) = false := by simpa using h3
    have c2 : w3.cell? ⟨p, 2, none⟩ = some (.slice v.A v.bs.length v.ca) := At.cell HS2.out.a.room 2
    by_cases h4 : 12 ≤ v.bs.length
    · have h4' : (12 : Int) ≤ (v.bs.length : Int) := by omega
      have HL : Hid (buyR v.rm n len c m = (4, v.rm)) := Lib.hid (by
        unfold buyR; rw [if_neg (by rw [HF.out]; simp), if_neg (by omega), if_pos]
        show 12 ≤ (v.bs.map _).length
        simpa using h4)
      go_wp2_with fail
      go_ret
      exact retO_no HL.out HS2.out.a HB2.out
    have h4' : ¬ (12 : Int) ≤ (v.bs.length : Int) := by omega
    have HL : Hid (buyR v.rm n len c m = (0, { v.rm.put n (ofH c len) with cash := v.rm.cash - m, bought := v.rm.bought + c })) := Lib.hid (by
      unfold buyR; rw [if_neg (by rw [HF.out]; simp), if_neg (by omega), if_neg]
      show ¬ 12 ≤ (v.bs.map _).length
      simpa using h4)
    have HH : Hid (1 ≤ len ∧ len ≤ 24) := Lib.hid (by omega)
    go_wp2_with fail
    clear c2 h1 h2 h3 h3' h4 h4'
    have HC2 : Hid (0 ≤ c ∧ c ≤ 1000000) := Lib.hid HC.out
    with_reducible refine (of2_any c len w3 HC2.out HH.out).mono ?_
    rintro _ w4 ⟨u, hu, rfl, hin, hnew, hb⟩
    have HU := Lib.hid hu
    have HI := Lib.hid hin
    have HN : Hid (u.New w.heap.size) := Lib.hid (hnew.mono HB2.out.size)
    have HS4 := Lib.hid (HS2.out.below hb)
    have HB4 := Lib.hid (below_trans' HB2.out hb)
    clear hu hin hnew hb HS2 HB2
    go_wp2_with fail
    have hfar : ∀ k, blk u.A u.n k ∨ blk u.B u.m k → ¬ v.F p k ∧ 8 ≤ k := fun k hk => H0.out.far (.inr (HN.out k hk))
    with_reducible refine (addR_any v st p n u w4 HS4.out.a HI.out hnl hul hfar (Nat.le_trans hlb (by decide))).mono ?_
    rintro _ w5 ⟨rfl, A', c', hi5, hr5⟩
    have H5 := Lib.hid hi5
    have R5 := Lib.hid (hr5 v w (Rs.below HB4.out) HN.out)
    clear hi5 hr5 hfar
    have c7 : w5.cell? ⟨p, 7, none⟩ = some (.int .i64 v.cash) := At.cell H5.out.room 7
    have c5 : w5.cell? ⟨p, 5, none⟩ = some (.int .i64 v.bought) := At.cell H5.out.room 5
    have fp := H5.out.room.fz
    have v1 : IntKind.i64.wrap (v.cash - m) = v.cash - m := IntWalk.i64_in _ (by have := HM.out; unfold inN at this; omega)
    have v2 : IntKind.i64.wrap (v.bought + c) = v.bought + c := IntWalk.i64_in _ (by have := HC2.out; omega)
    go_wp2_with fail
    go_ret
    obtain ⟨a1, a2⟩ := H5.out.setN (v' := { v with A := A', ca := c', bs := v.bs ++ [⟨n, u⟩], used := v.used ++ [n], cash := v.cash - m }) (s' := st) 7 (.int .i64 (v.cash - m)) rfl ⟨rfl, rfl, rfl, rfl⟩ ⟨rfl, rfl, rfl, rfl⟩ ⟨rfl, rfl, rfl⟩
    obtain ⟨b1, b2⟩ := a1.setN (v' := { v with A := A', ca := c', bs := v.bs ++ [⟨n, u⟩], used := v.used ++ [n], cash := v.cash - m, bought := v.bought + c }) (s' := st) 5 (.int .i64 (v.bought + c)) rfl ⟨rfl, rfl, rfl, rfl⟩ ⟨rfl, rfl, rfl, rfl⟩ ⟨rfl, rfl, rfl⟩
    rw [HL.out]
    refine ⟨rfl, _, ?_, b1, (R5.out.trans a2).trans b2⟩
    rw [← HU.out, ← rm_put v A' c' n u]
    rfl
end Go.Proofs.YtihhclhpjgeniaaGreatDoor
namespace Go.Proofs.YtihhclhpjgeniaaGreatDoor
open Go.RowKit Go.Sort
section
variable {P : Program} {ops : Array Oper} {md : Region.Mode} {Q : Exit → Act → World → Prop} {S : World → Prop}
theorem tailJ_three {n t1 t2 t3 : Nat} {ps ts ns1 ps1 ts1 ns2 ps2 ts2 ns3 ps3 ts3 : List Nat} {o1 o2 o3 : Oper} {a : Act} {w : World} (hr : readyT md ops ts = [t1, t2, t3]) (he1 : ts.erase t1 = ts1) (hn1 : newH md ops ps ts1 = ns1) (hp1 : oldH md ops ps ts1 = ps1)
    (he2 : ts.erase t2 = ts2) (hn2 : newH md ops ps ts2 = ns2) (hp2 : oldH md ops ps ts2 = ps2) (he3 : ts.erase t3 = ts3) (hn3 : newH md ops ps ts3 = ns3) (hp3 : oldH md ops ps ts3 = ps3) (ho1 : ops[t1]? = some o1) (ho2 : ops[t2]? = some o2) (ho3 : ops[t3]? = some o3)
    (h1 : ∀ W, Below w.heap.size w W → wpList P ops (Thn Q fun a' w' => S w' ∧ canonG P ops S (fun a'' => tailJ P md ops Q S (n + 1) ps1 ts1 a'' w') ns1 a') [o1] a W) (h2 : ∀ W, Below w.heap.size w W → wpList P ops (Thn Q fun a' w' => S w' ∧ canonG P ops S (fun a'' => tailJ P md ops Q S (n + 1) ps2 ts2 a'' w') ns2 a') [o2] a W)
    (h3 : ∀ W, Below w.heap.size w W → wpList P ops (Thn Q fun a' w' => S w' ∧ canonG P ops S (fun a'' => tailJ P md ops Q S (n + 1) ps3 ts3 a'' w') ns3 a') [o3] a W) : tailJ P md ops Q S (n + 2) ps ts a w := by
  intro W hW u hu
  rw [hr] at hu
  simp only [List.mem_cons, List.not_mem_nil, or_false] at hu
  rcases hu with rfl | rfl | rfl
  · rw [he1, hn1, hp1]; exact wpOp_of_list ho1 (h1 W hW)
  · rw [he2, hn2, hp2]; exact wpOp_of_list ho2 (h2 W hW)
  · rw [he3, hn3, hp3]; exact wpOp_of_list ho3 (h3 W hW)
end
end Go.Proofs.YtihhclhpjgeniaaGreatDoor
