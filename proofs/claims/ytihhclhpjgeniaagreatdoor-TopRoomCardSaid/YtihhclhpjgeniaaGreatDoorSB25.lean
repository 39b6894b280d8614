/- Merged texts: Gw Ge Gf Gg -/
import Derived.Test.YtihhclhpjgeniaaGreatDoorSB24
import Derived.Maps.Own
import Derived.Maps.Ext
namespace Go.Proofs.YtihhclhpjgeniaaGreatDoor
open Go.RowKit Go.Sort
def fmV (l : List Nat) : List UInt8 := l.map fun f => if f = 0 then 110 else if f = 1 then 99 else 115
def doF (k : Nat) : Nat := [156, 157, 158, 159, 159, 159, 160, 161, 162, 162, 162, 162, 162, 162, 163, 164, 165, 166, 167].getD k 0
def cmdE (c : Nat × List Nat) : Value := .agg #[.int .i64 c.1, .string (mkB (fmV c.2)), .func (.func (doF c.1)) #[] #[]]
def asIs (v : Value) : Option (DataW Value × List MemPlace) := some (.held v, [])
def CmdI (w0 : World) (b n : Nat) (f : List UInt8 → Option Value) (W : World) : Prop :=
 (∃ D : DataW Value, W.ownsMap Tryz.prog 9 asIs b n D ∧ ∀ key, (∀ z, D.atKey (.string key) (.held z) = .held ((f key).getD z)) ∧ Maps.has D (.string key) = (f key).isSome) ∧ Below w0.heap.size w0 W ∧ w0.heap.size ≤ b
theorem CmdI.new (w : World) : CmdI w w.heap.size 0 (fun _ => none) (w.alloc (.map #[] 0)) :=
 ⟨⟨.map [], World.ownsMap_made w _ _ _, fun key => ⟨fun z => by simp [DataW.atKey], rfl⟩⟩, belowA w _, Nat.le_refl _⟩
theorem wpList_insertC {ops : Array Oper} {rest : List Oper} {o : Oper} {a : Act} {Q : Exit → Act → World → Prop} {w0 w : World} (hgd : o.guard = none) (m x v : Operand) (hop : o.op = .insert 156 m x v) (b n : Nat) (f : List UInt8 → Option Value)
  (h : CmdI w0 b n f w) (hn : n < 1000) (hm : a.eval m = .map (some b)) (k : List UInt8) (hx : a.eval x = .string ⟨k.toArray⟩) (hk : k.length ≤ 100) (val : Value) (hv : a.eval v = val)
  (hr : ∀ w', CmdI w0 b (n + 1) (fun key => if key = k then some val else f key) w' → wpList Tryz.prog ops Q rest (a.put o.dst undef) w') : wpList Tryz.prog ops Q (o :: rest) a w := by
 obtain ⟨⟨D, h1, h2⟩, h3, h4⟩ := h
 obtain ⟨w', hrun, r1, r2⟩ := h1.update (Maps.string_keyed Tryz.underlying9) Tryz.underlying156 (by unfold maxLen; omega) (keyS k (by unfold maxLen; omega)) (show asIs val = some (.held val, []) from rfl)
 refine wpList_plain hgd fun K' hK' => ?_
 unfold Oper.wp
 rw [show (Value.string ⟨k.toArray⟩) = .string (mkB k) from rfl] at hx
 simp [execOp, hop, hm, hx, hv, hrun, Result.andThen]
 refine hK' _ _ (hr w' ⟨⟨_, r1, fun key => ?_⟩, h3.grown r2 h3.size (fun j hj => by injection hj with hj; omega), h4⟩)
 have hkl := (Maps.string_keyed Tryz.underlying9).key (keyS k (by unfold maxLen; omega))
 dsimp only
 by_cases e : key = k
 ·subst e
  simp only [if_true]
  exact ⟨fun z => by rw [Maps.atKey_put_same h1.isMap hkl]; rfl, by rw [Maps.has_put_same h1.isMap hkl]; rfl⟩
 ·rw [if_neg e]
  have hne : (Lit.string key) ≠ .string k := by simpa using e
  exact ⟨fun z => by rw [Maps.atKey_put_other hne]; exact (h2 key).1 z, by rw [Maps.has_put_other hne]; exact (h2 key).2⟩
def tabF (j : Nat) (key : List UInt8) : Option Value := ((cmds.take j).find? fun x => x.1 == key).map fun x => cmdE x.2
def cmdAt (j : Nat) : List UInt8 × Nat × List Nat := cmds.getD j ([], 0, [])
theorem cmds_nodup : (cmds.map (·.1)).Nodup := by decide
theorem cmd_short : ∀ j, j < 19 → (cmdAt j).1.length ≤ 100 := by decide
theorem tabF_succ {j : Nat} (hj : j < 19) (key : List UInt8) : tabF (j + 1) key = if key = (cmdAt j).1 then some (cmdE (cmdAt j).2) else tabF j key := by
 have hl : j < cmds.length := hj
 have e : cmds.take (j + 1) = cmds.take j ++ [cmdAt j] := by
  rw [List.take_add_one, List.getElem?_eq_getElem hl]
  unfold cmdAt
  rw [List.getD_eq_getElem?_getD, List.getElem?_eq_getElem hl]
  rfl
 unfold tabF
 rw [e, List.find?_append]
 by_cases h : key = (cmdAt j).1
 ·rw [if_pos h]
  have hn : (cmds.take j).find? (fun x => x.1 == key) = none := by
   rw [List.find?_eq_none]
   intro x hx hxe
   have hxk : x.1 = (cmdAt j).1 := (beq_iff_eq.1 hxe).trans h
   obtain ⟨i, hi⟩ := List.mem_iff_getElem?.1 hx
   rw [List.getElem?_take] at hi
   split at hi
   ·rename_i hij
    have hil := (List.getElem?_eq_some_iff.1 hi).1
    have h1 : (cmds.map (·.1))[i]? = some x.1 := by rw [List.getElem?_map, hi]; rfl
    have h2 : (cmds.map (·.1))[j]? = some x.1 := by
     rw [List.getElem?_map, List.getElem?_eq_getElem hl, hxk]
     unfold cmdAt
     rw [List.getD_eq_getElem?_getD, List.getElem?_eq_getElem hl]
     rfl
    have hl1 : i < (cmds.map (·.1)).length := by simpa using hil
    have := (List.getElem?_inj hl1 cmds_nodup).1 (h1.trans h2.symm)
    omega
   ·cases hi
  rw [hn]
  simp [h]
 ·rw [if_neg h]
  have : [cmdAt j].find? (fun x => x.1 == key) = none := by
   simp only [List.find?_cons, List.find?_nil]
   rw [show ((cmdAt j).1 == key) = false from beq_false_of_ne fun e => h e.symm]
  rw [this, Option.or_none]
theorem wpList_insertJ {ops : Array Oper} {rest : List Oper} {o : Oper} {a : Act} {Q : Exit → Act → World → Prop} {w0 w : World} (hgd : o.guard = none) (m x v : Operand) (hop : o.op = .insert 156 m x v) (b j : Nat)
  (h : CmdI w0 b j (tabF j) w) (hj : j < 19) (hm : a.eval m = .map (some b)) (hx : a.eval x = .string ⟨(cmdAt j).1.toArray⟩) (hv : a.eval v = cmdE (cmdAt j).2)
  (hr : ∀ w', CmdI w0 b (j + 1) (tabF (j + 1)) w' → wpList Tryz.prog ops Q rest (a.put o.dst undef) w') : wpList Tryz.prog ops Q (o :: rest) a w :=
 wpList_insertC hgd m x v hop b j (tabF j) h (by omega) hm (cmdAt j).1 hx (cmd_short j hj) _ hv fun w' h' => hr w' (by
  have e : tabF (j + 1) = fun key => if key = (cmdAt j).1 then some (cmdE (cmdAt j).2) else tabF j key := funext fun key => tabF_succ hj key
  rw [e]; exact h')
theorem tabF_all (key : List UInt8) : tabF 19 key = (cmdOf key).map cmdE := by
 unfold tabF cmdOf
 rw [List.take_of_length_le (by decide), Option.map_map]
 rfl
def CmdsIn (b : Nat) (w : World) : Prop :=
 ∃ (n : Nat) (D : DataW Value), w.ownsMap Tryz.prog 9 asIs b n D ∧ ∀ key, (∀ z, D.atKey (.string key) (.held z) = .held (((cmdOf key).map cmdE).getD z)) ∧ Maps.has D (.string key) = ((cmdOf key).map cmdE).isSome
theorem CmdsIn.below {b : Nat} {w w' : World} (h : CmdsIn b w) (hb : Below w.heap.size w w') : CmdsIn b w' := by
 obtain ⟨n, D, ⟨es, clock, h1, h2⟩, h3⟩ := h
 exact ⟨n, D, ⟨es, clock, (hb.block b (Array.getElem?_eq_some_iff.1 h1).1).trans h1, h2⟩, h3⟩
def cmd0 : Value := .agg #[.int .i64 0, .string (ByteArray.mk #[]), .nilFunc]
def cmdV (key : List UInt8) : Value := ((cmdOf key).map cmdE).getD cmd0
theorem zero112 : ∀ w, (zeroValue 112).run Tryz.prog w = .ok cmd0 w := fun _ => by kernel_rfl
theorem CmdsIn.look {b : Nat} {w : World} (h : CmdsIn b w) (key : List UInt8) (hk : key.length ≤ 1000000) : (Instr.lookup 156 (.map (some b)) (.string (mkB key)) true).run Tryz.prog w = .ok (.tuple #[cmdV key, .bool (cmdOf key).isSome]) w := by
 obtain ⟨n, D, h1, h2⟩ := h
 obtain ⟨v, ps, hr, hv⟩ := h1.look_ok (Maps.string_keyed Tryz.underlying9) Tryz.underlying156 (zero112 w) (show asIs cmd0 = some (.held cmd0, []) from rfl) (keyS key (by unfold maxLen; omega))
 rw [(h2 key).1 cmd0] at hv
 have e : v = cmdV key := by
  exact DataW.held.inj (congrArg Prod.fst (Option.some.inj hv))
 rw [hr, e, (h2 key).2]
 simp
set_option maxRecDepth 100000 in
set_option maxHeartbeats 1000000 in
theorem commands_any (w : World) : Calls Tryz.prog 91 #[] w fun r w' => ∃ b, r = .returned (.map (some b)) ∧ CmdsIn b w' ∧ w.heap.size ≤ b ∧ Below w.heap.size w w' := by
 have h0 : CmdI w w.heap.size 0 (tabF 0) _ := CmdI.new w
 have hmm : ∀ (t : TypeId) (w : World), (Instr.makeMap t none).run Tryz.prog w = .ok (.map (some w.heap.size)) (w.alloc (.map #[] 0)) := fun _ _ => rfl
 go_enter Tryz.func91, Tryz.ntmps91
 go_wp2_with (first
  | (refine wpList_insertJ rfl _ _ _ rfl _ _ (by assumption) (by decide) rfl (by rfl) (by rfl) ?_; intro w' h'))
 go_ret
 obtain ⟨⟨D, h1, h2⟩, h3, h4⟩ := h'
 exact ⟨_, rfl, ⟨_, D, h1, fun key => by rw [← tabF_all]; exact h2 key⟩, h4, h3⟩
end Go.Proofs.YtihhclhpjgeniaaGreatDoor
namespace Go.Proofs.YtihhclhpjgeniaaGreatDoor
open Go.RowKit Go.Sort
set_option maxRecDepth 100000 in
set_option maxHeartbeats 1000000 in
theorem sellO_any (v : RV) (st : Int) (p : Nat) (x : OV) (a : List UInt8) (n : Int) (w : World) (h : v.In st p w) (hx : x.In w) (ha : x.o.names[0]? = some a) (hnn : x.o.nums[0]? = some n) (hn : inN n) (hl : v.ws.length ≤ 12) (hcash : -1000000000 ≤ v.cash ∧ v.cash ≤ 1000000000) :
  Calls Tryz.prog 166 #[.pointer (some ⟨p, 0, none⟩), .agg x.arr] w (RetO v st p w (sellR v.rm a n)) := by
 have H0 := Lib.hid h
 have H := Lib.hid (h.below (belowA w (.cells x.arr 114)))
 have HX := Lib.hid (hx.below (belowA w (.cells x.arr 114)))
 have KB := Lib.hid (At.new w x.arr 114)
 clear h hx
 go_enter Tryz.func166, Tryz.ntmps166
 go_wp2_with fail
 with_reducible refine (inR_any v st p x a 1 _ H.out HX.out ha hl).mono ?_
 rintro _ w2 ⟨⟨q, rfl, hq⟩, hb⟩
 have H2 := Lib.hid (H.out.below hb)
 have HX2 := Lib.hid (HX.out.below hb)
 have KB2 := Lib.hid (KB.out.below hb)
 have HB := Lib.hid (below1 _ hb)
 have HQ := Lib.hid hq
 clear hb hq H HX KB
 obtain ⟨e, he⟩ : ∃ e, (inW v.rm a 1).1 = e := ⟨_, rfl⟩
 have HE := Lib.hid he
 rw [he]
 clear he
 by_cases h0 : e = 0
 ·obtain ⟨g, hg, rfl⟩ := HQ.out (by rw [HE.out, h0])
  obtain ⟨y, hy, hyw⟩ := wig_nw (show (inW v.rm a 1).1 = 0 by rw [HE.out, h0])
  have HY := Lib.hid hy
  have HYW := Lib.hid hyw
  have hrow := H2.out.rw
  rw [hg] at hrow
  have d4 : w2.cell? ⟨g, (inW v.rm a 1).2.1 * 13 + 4, none⟩ = some (.int .i64 y.w.shed) := own_cell nw_len (by omega) hrow hy (j := 4) (by omega)
  have d10 : w2.cell? ⟨g, (inW v.rm a 1).2.1 * 13 + 10, none⟩ = some (.int .i64 y.w.state) := own_cell nw_len (by omega) hrow hy (j := 10) (by omega)
  have d11 : w2.cell? ⟨g, (inW v.rm a 1).2.1 * 13 + 11, none⟩ = some (.int .i64 y.w.price) := own_cell nw_len (by omega) hrow hy (j := 11) (by omega)
  have f10 : ∀ j, w2.frozen? ⟨g, j, none⟩ = false := fun j => hrow.frozenAt j
  have HG := Lib.hid hg
  have HL0 : Hid (sellR v.rm a n = if 0 < y.w.shed then (13, v.rm) else (0, { v.rm.setW (inW v.rm a 1).2.1 { y.w with state := 3, price := n } with cash := v.rm.cash + n })) := Lib.hid (by
   unfold sellR; rw [if_neg (by rw [HE.out, h0]; simp), ← hyw])
  clear hy hyw hrow hg
  generalize (inW v.rm a 1).2.1 = i at HY HL0 d4 d10 d11 ⊢
  subst h0
  by_cases hs : 0 < y.w.shed
  ·have HL : Hid (sellR v.rm a n = (13, v.rm)) := Lib.hid (by rw [HL0.out, if_pos hs])
   go_wp2_with fail
   go_ret
   exact retO_no HL.out H2.out HB.out
  ·have HL : Hid (sellR v.rm a n = (0, { v.rm.setW i { y.w with state := 3, price := n } with cash := v.rm.cash + n })) := Lib.hid (by rw [HL0.out, if_neg hs])
   obtain ⟨ad, e1, hc, hk, _⟩ := HX2.out.num hnn
   rw [show ad.add 0 = ad from rfl] at hc
   have b0 := KB2.out.cell
   go_wp2_with fail
   obtain ⟨r1, r2⟩ := wig_end H0.out H2.out (Rs.below HB.out) (fun _ k => k) HG.out HY.out (z := { y with w := { y.w with state := 3, price := n } }) (j := 10) (vs := [.int .i64 3, .int .i64 n]) (by simp) rfl (H2.out.hw y (List.mem_of_getElem? HY.out)) (fun k hk => .inl (.inr ⟨y, List.mem_of_getElem? HY.out, hk⟩))
   have r1' : ({ v with ws := v.ws.set i { y with w := { y.w with state := 3, price := n } } } : RV).In st p ((w2.setCell ⟨g, i * 13 + 10, none⟩ (.int .i64 3)).setCell ⟨g, i * 13 + 11, none⟩ (.int .i64 n)) := r1
   have r2' : Rs p v w { v with ws := v.ws.set i { y with w := { y.w with state := 3, price := n } } } ((w2.setCell ⟨g, i * 13 + 10, none⟩ (.int .i64 3)).setCell ⟨g, i * 13 + 11, none⟩ (.int .i64 n)) := r2
   have R1 := Lib.hid r1'
   have R2 := Lib.hid r2'
   clear r1 r2 r1' r2' d4 d10 d11 f10 b0 hc hk
   generalize (w2.setCell ⟨g, i * 13 + 10, none⟩ (.int .i64 3)).setCell ⟨g, i * 13 + 11, none⟩ (.int .i64 n) = w3 at R1 R2 ⊢
   have hil : i < v.ws.length := (List.getElem?_eq_some_iff.1 HY.out).1
   have hrow := R1.out.rw
   rw [show ({ v with ws := v.ws.set i { y with w := { y.w with state := 3, price := n } } } : RV).B = v.B from rfl, HG.out] at hrow
   have d11 : w3.cell? ⟨g, i * 13 + 11, none⟩ = some (.int .i64 n) := own_cell nw_len (by omega) hrow (l := v.ws.set i { y with w := { y.w with state := 3, price := n } }) (by rw [List.getElem?_set_self hil]) (j := 11) (by omega)
   have c7 : w3.cell? ⟨p, 7, none⟩ = some (.int .i64 v.cash) := At.cell R1.out.room 7
   have g0 : ∀ d os, (grow (redrawn w3 d) os).cell? ⟨g, i * 13 + 11, none⟩ = some (.int .i64 n) := rg_cell d11
   have g1 : ∀ d os, (grow (redrawn w3 d) os).cell? ⟨p, 7, none⟩ = some (.int .i64 v.cash) := rg_cell c7
   have v1 : IntKind.i64.wrap (v.cash + n) = v.cash + n := IntWalk.i64_in _ (by unfold inN at hn; omega)
   clear hrow d11 c7
   refine wp_region_qt 12 mixed (by kernel_rfl) ?_
   simp only [List.take_succ_cons, List.take_zero, List.drop_succ_cons, List.drop_zero]
   repeat (go_big_quiet_step (fail))
   refine wpQuiet_nil ?_
   intro w4 hb4
   have R3 := Lib.hid (R1.out.below hb4)
   have R4 := Lib.hid (R2.out.grow hb4)
   clear hb4 g0 g1 R1 R2
   have f7 := R3.out.room.fz
   have c7 : w4.cell? ⟨p, 7, none⟩ = some (.int .i64 v.cash) := At.cell R3.out.room 7
   go_wp2_with fail
   go_ret
   obtain ⟨q1, q2⟩ := R3.out.setN (v' := { v with ws := v.ws.set i { y with w := { y.w with state := 3, price := n } }, cash := v.cash + n }) (s' := st) 7 (.int .i64 (v.cash + n)) rfl ⟨rfl, rfl, rfl, rfl⟩ ⟨rfl, rfl, rfl, rfl⟩ ⟨rfl, rfl, rfl⟩
   rw [HL.out]
   refine ⟨rfl, _, ?_, q1, R4.out.trans q2⟩
   rw [← rm_setW v i { y with w := { y.w with state := 3, price := n } }]
   rfl
 ·have HL : Hid (sellR v.rm a n = (e, v.rm)) := Lib.hid (by unfold sellR; rw [if_pos (by rw [HE.out]; exact h0), HE.out])
  have h1 : (e != 0) = true := by simpa using h0
  go_wp2_with fail
  go_ret
  exact retO_no HL.out H2.out HB.out
end Go.Proofs.YtihhclhpjgeniaaGreatDoor
namespace Go.Proofs.YtihhclhpjgeniaaGreatDoor
open Go.RowKit Go.Sort
set_option maxRecDepth 100000 in
set_option maxHeartbeats 1000000 in
theorem knotO_any (v : RV) (st : Int) (p : Nat) (x : OV) (a : List UInt8) (n : Int) (w : World) (h : v.In st p w) (hx : x.In w) (ha : x.o.names[0]? = some a) (hnn : x.o.nums[0]? = some n) (hn : inN n) (hok : ∀ y ∈ v.ws, y.w.Ok) (hl : v.ws.length ≤ 12) :
  Calls Tryz.prog 161 #[.pointer (some ⟨p, 0, none⟩), .agg x.arr] w (RetO v st p w (knotR v.rm a n)) := by
 have H0 := Lib.hid h
 have H := Lib.hid (h.below (belowA w (.cells x.arr 114)))
 have HX := Lib.hid (hx.below (belowA w (.cells x.arr 114)))
 have KB := Lib.hid (At.new w x.arr 114)
 clear h hx
 go_enter Tryz.func161, Tryz.ntmps161
 go_wp2_with fail
 with_reducible refine (inR_any v st p x a 0 _ H.out HX.out ha hl).mono ?_
 rintro _ w2 ⟨⟨q, rfl, hq⟩, hb⟩
 have H2 := Lib.hid (H.out.below hb)
 have HX2 := Lib.hid (HX.out.below hb)
 have KB2 := Lib.hid (KB.out.below hb)
 have HB := Lib.hid (below1 _ hb)
 have HQ := Lib.hid hq
 clear hb hq H HX KB
 obtain ⟨e, he⟩ : ∃ e, (inW v.rm a 0).1 = e := ⟨_, rfl⟩
 have HE := Lib.hid he
 rw [he]
 clear he
 by_cases h0 : e = 0
 rotate_left
 ·have HL : Hid (knotR v.rm a n = (e, v.rm)) := Lib.hid (by unfold knotR; rw [if_pos (by rw [HE.out]; exact h0), HE.out])
  have h1 : (e != 0) = true := by simpa using h0
  go_wp2_with fail
  go_ret
  exact retO_no HL.out H2.out HB.out
 obtain ⟨g, hg, rfl⟩ := HQ.out (by rw [HE.out, h0])
 obtain ⟨y, hy, hyw⟩ := wig_nw (show (inW v.rm a 0).1 = 0 by rw [HE.out, h0])
 have HY := Lib.hid hy
 have HG := Lib.hid hg
 have hrow := H2.out.rw
 rw [hg] at hrow
 have d2 : w2.cell? ⟨g, (inW v.rm a 0).2.1 * 13 + 2, none⟩ = some (.int .i64 y.w.hairs) := own_cell nw_len (by omega) hrow hy (j := 2) (by omega)
 have d3 : w2.cell? ⟨g, (inW v.rm a 0).2.1 * 13 + 3, none⟩ = some (.int .i64 y.w.done) := own_cell nw_len (by omega) hrow hy (j := 3) (by omega)
 have HL0 : Hid (knotR v.rm a n = if y.w.hairs - y.w.done < n then (6, v.rm) else (0, v.rm.setW (inW v.rm a 0).2.1 { y.w with done := y.w.done + n, state := if y.w.done + n = y.w.hairs then 1 else 0 })) := Lib.hid (by
  unfold knotR; rw [if_neg (by rw [HE.out, h0]; simp), ← hyw])
 have hst : y.w.state = 0 := by rw [hyw]; exact (inW_zero (by rw [HE.out, h0])).2
 have ky := hok y (List.mem_of_getElem? hy)
 have hd := ky.done
 have hh := ky.hairs
 obtain ⟨ad, e1, hc, hk, _⟩ := HX2.out.num hnn
 rw [show ad.add 0 = ad from rfl] at hc
 clear hy hyw hrow hg ky
 generalize (inW v.rm a 0).2.1 = i at HY HL0 d2 d3 ⊢
 subst h0
 have g0 : ∀ d os, (grow (redrawn w2 d) os).cell? ⟨g, i * 13 + 2, none⟩ = some (.int .i64 y.w.hairs) := rg_cell d2
 have g1 : ∀ d os, (grow (redrawn w2 d) os).cell? ⟨g, i * 13 + 3, none⟩ = some (.int .i64 y.w.done) := rg_cell d3
 have g2 : ∀ d os, (grow (redrawn w2 d) os).cell? ad = some (.int .i64 n) := rg_cell hc
 have g3 : ∀ d os, (grow (redrawn w2 d) os).cell? ⟨w.heap.size, 5, none⟩ = some (.slice x.B x.m x.d) := rg_cell (KB2.out.cell 5)
 have v1 : IntKind.i64.wrap (y.w.hairs - y.w.done) = y.w.hairs - y.w.done := IntWalk.i64_in _ (by omega)
 clear d2 d3
 go_wp2_with fail
 refine wp_region_qb mixed (by kernel_rfl) ?_
 repeat (go_big_quiet_step (fail))
 refine wpQuiet_nil ?_
 intro w3 hb3
 have H3 := Lib.hid (H2.out.below hb3)
 have KB3 := Lib.hid (KB2.out.below hb3)
 have HX3 := Lib.hid (HX2.out.below hb3)
 have HB3 := Lib.hid (below_trans' HB.out hb3)
 clear H2 KB2 HX2 HB hb3 g0 g1 g2 g3 v1 hc
 by_cases hs : y.w.hairs - y.w.done < n
 ·have HL : Hid (knotR v.rm a n = (6, v.rm)) := Lib.hid (by rw [HL0.out, if_pos hs])
  go_wp2_with fail
  go_ret
  exact retO_no HL.out H3.out HB3.out
 ·have HL : Hid (knotR v.rm a n = (0, v.rm.setW i { y.w with done := y.w.done + n, state := if y.w.done + n = y.w.hairs then 1 else 0 })) := Lib.hid (by rw [HL0.out, if_neg hs])
  go_wp2_with fail
  have hrow := H3.out.rw
  rw [HG.out] at hrow
  have d2 : w3.cell? ⟨g, i * 13 + 2, none⟩ = some (.int .i64 y.w.hairs) := own_cell nw_len (by omega) hrow HY.out (j := 2) (by omega)
  have d3 : w3.cell? ⟨g, i * 13 + 3, none⟩ = some (.int .i64 y.w.done) := own_cell nw_len (by omega) hrow HY.out (j := 3) (by omega)
  obtain ⟨ad', e1', hc, hk', _⟩ := HX3.out.num hnn
  obtain rfl : ad' = ad := by rw [e1] at e1'; injection e1' with e1'; exact e1'.symm
  rw [show ad'.add 0 = ad' from rfl] at hc
  have g1 : ∀ d os, (grow (redrawn w3 d) os).cell? ⟨g, i * 13 + 3, none⟩ = some (.int .i64 y.w.done) := rg_cell d3
  have g2 : ∀ d os, (grow (redrawn w3 d) os).cell? ad' = some (.int .i64 n) := rg_cell hc
  have g3 : ∀ d os, (grow (redrawn w3 d) os).cell? ⟨w.heap.size, 5, none⟩ = some (.slice x.B x.m x.d) := rg_cell (KB3.out.cell 5)
  have v1 : IntKind.i64.wrap (y.w.done + n) = y.w.done + n := IntWalk.i64_in _ (by unfold inN at hn; omega)
  clear d2 d3 hc hrow
  refine wp_region_qt 13 mixed (by kernel_rfl) ?_
  simp only [List.take_succ_cons, List.take_zero, List.drop_succ_cons, List.drop_zero]
  repeat (go_big_quiet_step (fail))
  refine wpQuiet_nil ?_
  intro w4 hb4
  have H4 := Lib.hid (H3.out.below hb4)
  have HB4 := Lib.hid (below_trans' HB3.out hb4)
  clear hb4 g1 g2 g3 H3 HB3 KB3 HX3
  have hrow := H4.out.rw
  rw [HG.out] at hrow
  have d3 : w4.cell? ⟨g, i * 13 + 3, none⟩ = some (.int .i64 y.w.done) := own_cell nw_len (by omega) hrow HY.out (j := 3) (by omega)
  have f3 : ∀ j, w4.frozen? ⟨g, j, none⟩ = false := fun j => hrow.frozenAt j
  clear hrow
  go_wp2_with fail
  obtain ⟨r1, r2⟩ := wig_end H0.out H4.out (Rs.below HB4.out) (fun _ k => k) HG.out HY.out (z := { y with w := { y.w with done := y.w.done + n } }) (j := 3) (vs := [.int .i64 (y.w.done + n)]) (by simp) rfl (H4.out.hw y (List.mem_of_getElem? HY.out)) (fun k hk => .inl (.inr ⟨y, List.mem_of_getElem? HY.out, hk⟩))
  have r1' : ({ v with ws := v.ws.set i { y with w := { y.w with done := y.w.done + n } } } : RV).In st p (w4.setCell ⟨g, i * 13 + 3, none⟩ (.int .i64 (y.w.done + n))) := r1
  have r2' : Rs p v w { v with ws := v.ws.set i { y with w := { y.w with done := y.w.done + n } } } (w4.setCell ⟨g, i * 13 + 3, none⟩ (.int .i64 (y.w.done + n))) := r2
  have R1 := Lib.hid r1'
  have R2 := Lib.hid r2'
  clear r1 r2 r1' r2' d3 f3 H4 HB4
  generalize w4.setCell ⟨g, i * 13 + 3, none⟩ (.int .i64 (y.w.done + n)) = w5 at R1 R2 ⊢
  have hil : i < v.ws.length := (List.getElem?_eq_some_iff.1 HY.out).1
  obtain ⟨y1, hy1⟩ : ∃ z : NW, z = { y with w := { y.w with done := y.w.done + n } } := ⟨_, rfl⟩
  have e3 : y1.w.done = y.w.done + n := by rw [hy1]
  have e2 : y1.w.hairs = y.w.hairs := by rw [hy1]
  have HY1 := Lib.hid hy1
  rw [← hy1] at R1 R2
  clear hy1
  have hy2 : (v.ws.set i y1)[i]? = some y1 := by rw [List.getElem?_set_self hil]
  have hrow := R1.out.rw
  rw [show ({ v with ws := v.ws.set i y1 } : RV).B = v.B from rfl, HG.out] at hrow
  have d2 : w5.cell? ⟨g, i * 13 + 2, none⟩ = some (.int .i64 y.w.hairs) := by rw [← e2]; exact own_cell nw_len (by omega) hrow hy2 (j := 2) (by omega)
  have d3 : w5.cell? ⟨g, i * 13 + 3, none⟩ = some (.int .i64 (y.w.done + n)) := by rw [← e3]; exact own_cell nw_len (by omega) hrow hy2 (j := 3) (by omega)
  have HY2 := Lib.hid hy2
  have g0 : ∀ d os, (grow (redrawn w5 d) os).cell? ⟨g, i * 13 + 2, none⟩ = some (.int .i64 y.w.hairs) := rg_cell d2
  have g1 : ∀ d os, (grow (redrawn w5 d) os).cell? ⟨g, i * 13 + 3, none⟩ = some (.int .i64 (y.w.done + n)) := rg_cell d3
  clear hrow d2 d3 e2 e3 hy2 v1
  refine wp_region_qb mixed (by kernel_rfl) ?_
  repeat (go_big_quiet_step (fail))
  refine wpQuiet_nil ?_
  intro w6 hb6
  have R3 := Lib.hid (R1.out.below hb6)
  have R4 := Lib.hid (R2.out.grow hb6)
  clear hb6 g0 g1 R1 R2
  by_cases hq : y.w.done + n = y.w.hairs
  ·have hrow := R3.out.rw
   rw [show ({ v with ws := v.ws.set i y1 } : RV).B = v.B from rfl, HG.out] at hrow
   have d10 : w6.cell? ⟨g, i * 13 + 10, none⟩ = some (.int .i64 y1.w.state) := own_cell nw_len (by omega) hrow HY2.out (j := 10) (by omega)
   have f3 : ∀ j, w6.frozen? ⟨g, j, none⟩ = false := fun j => hrow.frozenAt j
   have hq1 : (y.w.done + n == y.w.hairs) = true := by simpa using hq
   rw [if_pos hq] at HL
   clear hrow hq HL0
   go_wp2_with fail
   go_ret
   obtain ⟨r1, r2⟩ := wig_end H0.out R3.out R4.out (fun _ k => k) HG.out HY2.out (z := { y1 with w := { y1.w with state := 1 } }) (j := 10) (vs := [.int .i64 1]) (by simp) rfl (R3.out.hw y1 (List.mem_of_getElem? HY2.out)) (fun k hk => .inl (.inr ⟨y1, List.mem_of_getElem? HY2.out, hk⟩))
   rw [HL.out]
   refine ⟨rfl, _, ?_, r1, r2⟩
   show ({ v with ws := (v.ws.set i y1).set i { y1 with w := { y1.w with state := 1 } } } : RV).rm = _
   rw [List.set_set, rm_setW, HY1.out]
  ·have hq1 : (y.w.done + n == y.w.hairs) = false := by simpa using hq
   rw [if_neg hq] at HL
   clear hq HL0
   go_wp2_with fail
   go_ret
   rw [HL.out]
   refine ⟨rfl, _, ?_, R3.out, R4.out⟩
   rw [rm_setW, HY1.out, ← hst]
end Go.Proofs.YtihhclhpjgeniaaGreatDoor
namespace Go.Proofs.YtihhclhpjgeniaaGreatDoor
open Go.RowKit Go.Sort
theorem card_short {c : List Ent} (h : Card c) : shortT c := fun e he => by
 have h1 := (h.txt e he).2.2
 unfold right at h1
 rw [decide_eq_true_eq] at h1
 have := h1.1
 unfold edgeB at this
 omega
theorem nw_n {x : NW} {w : World} (h : Reads w w.heap.size 6 x.A x.n (ents x.w.card)) : x.n = x.w.card.length := by
 have := h.1
 rw [ents_length] at this; omega
set_option maxRecDepth 100000 in
set_option maxHeartbeats 1000000 in
theorem claimO_any (v : RV) (st : Int) (p : Nat) (x : OV) (a : List UInt8) (w : World) (h : v.In st p w) (hx : x.In w) (ha : x.o.names[0]? = some a) (hok : ∀ y ∈ v.ws, y.w.Ok) (hcash : -1000000000 ≤ v.cash ∧ v.cash ≤ 1000000000) (hl : v.ws.length ≤ 12) :
  Calls Tryz.prog 167 #[.pointer (some ⟨p, 0, none⟩), .agg x.arr] w (RetO v st p w (claimR v.rm a)) := by
 have H0 := Lib.hid h
 have H := Lib.hid (h.below (belowA w (.cells x.arr 114)))
 have HX := Lib.hid (hx.below (belowA w (.cells x.arr 114)))
 have KB := Lib.hid (At.new w x.arr 114)
 clear h hx
 go_enter Tryz.func167, Tryz.ntmps167
 go_wp2_with fail
 with_reducible refine (inR_any v st p x a 3 _ H.out HX.out ha hl).mono ?_
 rintro _ w2 ⟨⟨q, rfl, hq⟩, hb⟩
 have H2 := Lib.hid (H.out.below hb)
 have HX2 := Lib.hid (HX.out.below hb)
 have KB2 := Lib.hid (KB.out.below hb)
 have HB := Lib.hid (below1 _ hb)
 have HQ := Lib.hid hq
 clear hb hq H HX KB
 obtain ⟨e, he⟩ : ∃ e, (inW v.rm a 3).1 = e := ⟨_, rfl⟩
 have HE := Lib.hid he
 rw [he]
 clear he
 by_cases h0 : e = 0
 rotate_left
 ·have HL : Hid (claimR v.rm a = (e, v.rm)) := Lib.hid (by unfold claimR; rw [if_pos (by rw [HE.out]; exact h0), HE.out])
  have h1 : (e != 0) = true := by simpa using h0
  go_wp2_with fail
  go_ret
  exact retO_no HL.out H2.out HB.out
 obtain ⟨g, hg, rfl⟩ := HQ.out (by rw [HE.out, h0])
 obtain ⟨y, hy, hyw⟩ := wig_nw (show (inW v.rm a 3).1 = 0 by rw [HE.out, h0])
 have HY := Lib.hid hy
 have HG := Lib.hid hg
 have hrow := H2.out.rw
 rw [hg] at hrow
 have d12 : w2.cell? ⟨g, (inW v.rm a 3).2.1 * 13 + 12, none⟩ = some (.slice y.A y.n y.c) := own_cell nw_len (by omega) hrow hy (j := 12) (by omega)
 have HL0 : Hid (claimR v.rm a = if clk y.w.card 1 ≤ clk y.w.card 0 then (15, v.rm) else (0, { v.rm.setW (inW v.rm a 3).2.1 { y.w with state := 1, price := 0 } with cash := v.rm.cash - y.w.price })) := Lib.hid (by
  unfold claimR; rw [if_neg (by rw [HE.out, h0]; simp), ← hyw])
 have ky := hok y (List.mem_of_getElem? hy)
 have hcd := H2.out.hw y (List.mem_of_getElem? hy)
 have hn60 : y.n ≤ 60 := by rw [nw_n hcd.1]; exact ky.card.len
 have HP := Lib.hid ky.price
 have HCD := Lib.hid ky.card
 have HRD := Lib.hid hcd.1
 clear hy hyw hrow hg ky hcd
 generalize (inW v.rm a 3).2.1 = i at HY HL0 d12 ⊢
 subst h0
 go_wp2_with fail
 have hc := Clock_any y.A y.n y.c y.w.card w2 HRD.out (by omega) (card_short HCD.out)
 rw [val_zero.2 HCD.out, clkT_ok (val_zero.2 HCD.out)] at hc
 with_reducible refine hc.mono ?_
 clear hc
 rintro _ w3 ⟨rfl, hb3⟩
 have H3 := Lib.hid (H2.out.below hb3)
 have HB3 := Lib.hid (below_trans' HB.out hb3)
 clear d12 hb3 H2 HB HX2 KB2 HRD
 have l0 : (clk y.w.card 0 : Int) ≤ 60 := by have := List.length_filter_le (fun e : Ent => decide (e.1 = 0)) y.w.card; have := HCD.out.len; unfold clk; omega
 have l1 : (clk y.w.card 1 : Int) ≤ 60 := by have := List.length_filter_le (fun e : Ent => decide (e.1 = 1)) y.w.card; have := HCD.out.len; unfold clk; omega
 by_cases hs : clk y.w.card 1 ≤ clk y.w.card 0
 ·have HL : Hid (claimR v.rm a = (15, v.rm)) := Lib.hid (by rw [HL0.out, if_pos hs])
  have hs' : ((clk y.w.card 1 : Nat) : Int) ≤ ((clk y.w.card 0 : Nat) : Int) := by omega
  go_wp2_with fail
  go_ret
  exact retO_no HL.out (H3.out.below (belowA _ _)) (below_trans' HB3.out (belowA _ _))
 ·have HL : Hid (claimR v.rm a = (0, { v.rm.setW i { y.w with state := 1, price := 0 } with cash := v.rm.cash - y.w.price })) := Lib.hid (by rw [HL0.out, if_neg hs])
  have hs' : ((clk y.w.card 0 : Nat) : Int) < ((clk y.w.card 1 : Nat) : Int) := by omega
  clear hs HL0
  go_wp2_with fail
  refine wp_gen (fun W => v.In st p W ∧ Below w.heap.size w W) ⟨H3.out.below (belowA _ _), below_trans' HB3.out (belowA _ _)⟩ ?_
  rintro w4 ⟨h4, hb4⟩
  have H4 := Lib.hid h4
  have HB4 := Lib.hid hb4
  clear h4 hb4 H3 HB3
  have hrow := H4.out.rw
  rw [HG.out] at hrow
  have d11 : w4.cell? ⟨g, i * 13 + 11, none⟩ = some (.int .i64 y.w.price) := own_cell nw_len (by omega) hrow HY.out (j := 11) (by omega)
  have c7 : w4.cell? ⟨p, 7, none⟩ = some (.int .i64 v.cash) := At.cell H4.out.room 7
  have g0 : ∀ d os, (grow (redrawn w4 d) os).cell? ⟨g, i * 13 + 11, none⟩ = some (.int .i64 y.w.price) := rg_cell d11
  have g1 : ∀ d os, (grow (redrawn w4 d) os).cell? ⟨p, 7, none⟩ = some (.int .i64 v.cash) := rg_cell c7
  have v1 : IntKind.i64.wrap (v.cash - y.w.price) = v.cash - y.w.price := IntWalk.i64_in _ (by have := HP.out; omega)
  clear hrow d11 c7
  refine wp_region_qt 12 mixed (by kernel_rfl) ?_
  simp only [List.take_succ_cons, List.take_zero, List.drop_succ_cons, List.drop_zero]
  repeat (go_big_quiet_step (fail))
  refine wpQuiet_nil ?_
  intro w5 hb5
  have H5 := Lib.hid (H4.out.below hb5)
  have HB5 := Lib.hid (below_trans' HB4.out hb5)
  clear hb5 g0 g1 H4 HB4
  have f7 := H5.out.room.fz
  have c7 : w5.cell? ⟨p, 7, none⟩ = some (.int .i64 v.cash) := At.cell H5.out.room 7
  obtain ⟨q1, q2⟩ := H5.out.setN (v' := { v with cash := v.cash - y.w.price }) (s' := st) 7 (.int .i64 (v.cash - y.w.price)) rfl ⟨rfl, rfl, rfl, rfl⟩ ⟨rfl, rfl, rfl, rfl⟩ ⟨rfl, rfl, rfl⟩
  have hrow := q1.rw
  rw [show ({ v with cash := v.cash - y.w.price } : RV).B = v.B from rfl, HG.out] at hrow
  have d10 : (w5.setCell ⟨p, 7, none⟩ (.int .i64 (v.cash - y.w.price))).cell? ⟨g, i * 13 + 10, none⟩ = some (.int .i64 y.w.state) := own_cell nw_len (by omega) hrow HY.out (j := 10) (by omega)
  have d11 : (w5.setCell ⟨p, 7, none⟩ (.int .i64 (v.cash - y.w.price))).cell? ⟨g, i * 13 + 11, none⟩ = some (.int .i64 y.w.price) := own_cell nw_len (by omega) hrow HY.out (j := 11) (by omega)
  have f10 : ∀ j, (w5.setCell ⟨p, 7, none⟩ (.int .i64 (v.cash - y.w.price))).frozen? ⟨g, j, none⟩ = false := fun j => hrow.frozenAt j
  obtain ⟨r1, r2⟩ := wig_end H0.out q1 ((Rs.below HB5.out).trans q2) (fun _ k => k) HG.out HY.out (z := { y with w := { y.w with state := 1, price := 0 } }) (j := 10) (vs := [.int .i64 1, .int .i64 0]) (by simp) rfl (q1.hw y (List.mem_of_getElem? HY.out)) (fun k hk => .inl (.inr ⟨y, List.mem_of_getElem? HY.out, hk⟩))
  have R1 := Lib.hid r1
  have R2 := Lib.hid r2
  clear r1 r2 q1 q2 hrow
  go_wp2_with fail
  go_ret
  rw [HL.out]
  refine ⟨rfl, _, ?_, R1.out, R2.out⟩
  rw [← rm_setW v i { y with w := { y.w with state := 1, price := 0 } }]
  rfl
end Go.Proofs.YtihhclhpjgeniaaGreatDoor
