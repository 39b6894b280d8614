/- Merged texts: J1 Rb -/
import Derived.Test.YtihhclhpjgeniaaGreatDoorSB7
import Derived.Test.YtihhclhpjgeniaaGreatDoorSB8
import Derived.Test.YtihhclhpjgeniaaGreatDoorSB9
import Derived.Test.YtihhclhpjgeniaaGreatDoorSB13
namespace Go.Proofs.YtihhclhpjgeniaaGreatDoor
open Go.RowKit Go.Sort
def joinR (u v : ByteArray) : List UInt8 × Int := if okW u = true ∧ okW v = true then (if 60 < u.size + v.size then ([], 4) else (liB u ++ liB v, 0)) else ([], 1)
theorem joinR_no1 {u v : ByteArray} (h : okW u = false) : joinR u v = ([], 1) := by unfold joinR; rw [if_neg (by rw [h]; simp)]
theorem joinR_no2 {u v : ByteArray} (h : okW v = false) : joinR u v = ([], 1) := by unfold joinR; rw [if_neg (by rw [h]; simp)]
theorem joinR_long {u v : ByteArray} (h1 : okW u = true) (h2 : okW v = true) (h : 60 < u.size + v.size) : joinR u v = ([], 4) := by unfold joinR; rw [if_pos ⟨h1, h2⟩, if_pos h]
theorem joinR_ok {u v : ByteArray} (h1 : okW u = true) (h2 : okW v = true) (h : ¬ 60 < u.size + v.size) : joinR u v = (liB u ++ liB v, 0) := by unfold joinR; rw [if_pos ⟨h1, h2⟩, if_neg h]
theorem append_li (u v : ByteArray) : u ++ v = mkB (liB u ++ liB v) := by
 rw [← mk_append, mk_li, mk_li]
set_option maxRecDepth 100000 in
theorem join_any (u v : ByteArray) (w : World) (hu : u.size ≤ 1000000) (hv : v.size ≤ 1000000) : Calls Tryz.prog 273 #[.string u, .string v] w fun r w' => r = .returned (.tuple #[.string (mkB (joinR u v).1), .int .i64 (joinR u v).2]) ∧ Below w.heap.size w w' := by
 go_enter Tryz.func273, Tryz.ntmps273
 go_wp2_with fail
 with_reducible refine (valid_any u _ hu).mono ?_
 rintro _ w2 ⟨rfl, hb⟩
 have HB := Lib.hid hb
 clear hb
 by_cases h1 : okW u = true
 ·have HU := Lib.hid h1
  rw [h1]
  clear h1
  go_wp2_with fail
  with_reducible refine (valid_any v _ hv).mono ?_
  rintro _ w3 ⟨rfl, hb⟩
  have HB2 := Lib.hid (below_trans' HB.out hb)
  clear hb
  by_cases h2 : okW v = true
  ·have HV := Lib.hid h2
   rw [h2]
   clear h2
   by_cases h3 : 60 < u.size + v.size
   ·have HJ := Lib.hid (joinR_long HU.out HV.out h3)
    go_wp2_with fail
    go_ret2
    exact ⟨by rw [HJ.out]; rfl, HB2.out⟩
   ·have HJ := Lib.hid (joinR_ok HU.out HV.out h3)
    go_wp2_with fail
    go_ret2
    exact ⟨by rw [HJ.out, ← append_li]; rfl, HB2.out⟩
  ·have h2' : okW v = false := by simpa using h2
   have HJ := Lib.hid (joinR_no2 (u := u) h2')
   rw [h2']
   clear h2 h2'
   go_wp2_with fail
   go_ret2
   exact ⟨by rw [HJ.out]; rfl, HB2.out⟩
 ·have h1' : okW u = false := by simpa using h1
  have HJ := Lib.hid (joinR_no1 (v := v) h1')
  rw [h1']
  clear h1 h1'
  go_wp2_with fail
  go_ret2
  exact ⟨by rw [HJ.out]; rfl, HB.out⟩
end Go.Proofs.YtihhclhpjgeniaaGreatDoor
namespace Go.Proofs.YtihhclhpjgeniaaGreatDoor
structure Wg where
 name : List UInt8
 bun : List UInt8
 hairs : Int
 done : Int
 shed : Int
 len : Int
 lvl : Int
 tone : Int
 bl : Int
 plait : List UInt8
 state : Int
 price : Int
 card : List Ent
structure Rm where
 bs : List (List UInt8 × Hr)
 ws : List Wg
 used : List (List UInt8)
 bought : Int
 lost : Int
 cash : Int
 day : List (List UInt8)
def rm0 : Rm := ⟨[], [], [], 0, 0, 0, []⟩
def Rm.bun (r : Rm) (n : List UInt8) : Option Nat := r.bs.findIdx? fun b => b.1 == n
def Rm.wig (r : Rm) (n : List UInt8) : Option Nat := r.ws.findIdx? fun b => b.name == n
def Rm.fresh (r : Rm) (n : List UInt8) : Bool := okName n && !(r.used.contains n)
def Rm.hr (r : Rm) (i : Nat) : Hr := (r.bs[i]?.map (·.2)).getD noH
def Rm.setH (r : Rm) (i : Nat) (h : Hr) : Rm := { r with bs := r.bs.modify i fun b => (b.1, h) }
def Rm.put (r : Rm) (n : List UInt8) (h : Hr) : Rm := { r with bs := r.bs ++ [(n, h)], used := r.used ++ [n] }
def Rm.setW (r : Rm) (i : Nat) (w : Wg) : Rm := { r with ws := r.ws.set i w }
def ofH (count len : Int) : Hr := if count = 0 then noH else ⟨List.replicate (len.toNat - 1) 0 ++ [count], []⟩
def buyR (r : Rm) (n : List UInt8) (len count pence : Int) : Int × Rm :=
 if r.fresh n = false then (2, r)
 else if len < 1 ∨ 24 < len ∨ count = 0 then (1, r)
 else if 12 ≤ r.bs.length then (4, r)
 else (0, { r.put n (ofH count len) with cash := r.cash - pence, bought := r.bought + count })
def mixR (r : Rm) (a b : List UInt8) : Int × Rm := match r.bun a, r.bun b with
 | some i, some k => if i = k then (1, r)
  else if (mixH (r.hr i) (r.hr k)).1 ≠ 0 then ((mixH (r.hr i) (r.hr k)).1, r)
  else (0, { r.setH i (mixH (r.hr i) (r.hr k)).2 with bs := (r.setH i (mixH (r.hr i) (r.hr k)).2).bs.eraseIdx k })
 | _, _ => (5, r)
def drawR (r : Rm) (a b : List UInt8) (n : Int) : Int × Rm := match r.bun a with
 | none => (5, r)
 | some i => if r.fresh b = false then (2, r)
  else if 12 ≤ r.bs.length then (4, r)
  else if (drawH (r.hr i) n).1 ≠ 0 then ((drawH (r.hr i) n).1, r)
  else (0, (r.setH i (drawH (r.hr i) n).2.2).put b (drawH (r.hr i) n).2.1)
def hackR (r : Rm) (a : List UInt8) (n : Int) : Int × Rm := match r.bun a with
 | none => (5, r)
 | some i => if (hackH (r.hr i) n).1 ≠ 0 then ((hackH (r.hr i) n).1, r)
  else (0, { r.setH i (hackH (r.hr i) n).2.1 with lost := r.lost + cntH (hackH (r.hr i) n).2.2.op })
def turnR (r : Rm) (a : List UInt8) : Int × Rm := match r.bun a with
 | none => (5, r)
 | some i => if (turnH (r.hr i)).1 ≠ 0 then ((turnH (r.hr i)).1, r) else (0, r.setH i (turnH (r.hr i)).2)
def snapR (r : Rm) (a : List UInt8) (len at' n : Int) : Int × Rm := match r.bun a with
 | none => (5, r)
 | some i => if (snapH (r.hr i) len at' n).1 ≠ 0 then ((snapH (r.hr i) len at' n).1, r)
  else (0, { r.setH i (snapH (r.hr i) len at' n).2 with bought := r.bought + n })
def newW (n b : List UInt8) (count len : Int) : Wg := ⟨n, b, count, 0, 0, len, 5, 0, 0, [], 0, 0, []⟩
def beginR (r : Rm) (n b : List UInt8) (count len : Int) : Int × Rm :=
 if r.fresh n = false then (2, r) else match r.bun b with
 | none => (5, r)
 | some i => if len < 1 ∨ 24 < len ∨ count = 0 then (1, r)
  else if 12 ≤ r.ws.length then (4, r)
  else if (cutH (r.hr i) (ofH count len)).1 ≠ 0 then ((cutH (r.hr i) (ofH count len)).1, r)
  else (0, { r.setH i (cutH (r.hr i) (ofH count len)).2 with used := r.used ++ [n], ws := r.ws ++ [newW n b count len] })
def inW (r : Rm) (n : List UInt8) (s : Int) : Int × Nat × Wg := match r.wig n with
 | none => (5, 0, newW [] [] 0 0)
 | some i => match r.ws[i]? with
  | none => (5, 0, newW [] [] 0 0)
  | some w => if w.state = s then (0, i, w) else (13, i, w)
def knotR (r : Rm) (a : List UInt8) (n : Int) : Int × Rm :=
 if (inW r a 0).1 ≠ 0 then ((inW r a 0).1, r)
 else if (inW r a 0).2.2.hairs - (inW r a 0).2.2.done < n then (6, r)
 else (0, r.setW (inW r a 0).2.1 { (inW r a 0).2.2 with done := (inW r a 0).2.2.done + n, state := if (inW r a 0).2.2.done + n = (inW r a 0).2.2.hairs then 1 else 0 })
def tBl : List UInt8 := [98, 108, 101, 97, 99, 104]
def tDy : List UInt8 := [100, 121, 101, 32, 99]
def tPl : List UInt8 := [112, 108, 97, 105, 116, 32]
def tCo : List UInt8 := [99, 111, 109, 98]
def tCu : List UInt8 := [99, 117, 116, 32]
def tWa : List UInt8 := [119, 97, 115, 104]
def tSh : List UInt8 := [115, 104, 101, 100, 32]
def tMe : List UInt8 := [109, 101, 110, 100, 32]
def bleachW (w : Wg) : Int × Wg := if w.bl = 3 then (14, w) else (0, { w with lvl := min (w.lvl + 2) 10, tone := 0, bl := w.bl + 1 })
def dyeW' (w : Wg) (l t : Int) : Int × Wg := if l < 1 ∨ 10 < l ∨ t < 0 ∨ 5 < t then (1, w) else if w.lvl < l then (14, w) else (0, { w with lvl := l, tone := t })
def plaitW (w : Wg) (s : List UInt8) : Int × Wg :=
 if (pStyle s).2 ≠ 0 then ((pStyle s).2, w)
 else if (joinR (mkB w.plait) (mkB (pStyle s).1)).2 ≠ 0 then ((joinR (mkB w.plait) (mkB (pStyle s).1)).2, w)
 else (0, { w with plait := (joinR (mkB w.plait) (mkB (pStyle s).1)).1 })
def trimW (w : Wg) (n : Int) : Int × Wg := if n = 0 ∨ w.len ≤ n then (1, w) else (0, { w with len := w.len - n })
def dyeT (l t : Int) : List UInt8 := tDy ++ Lib.itoa l ++ [120] ++ Lib.itoa t
def writeR (r : Rm) (i : Nat) (w : Wg) (p : Int) (t : List UInt8) : Int × Rm :=
 if addE w.card p (mkB t) ≠ 0 then (addE w.card p (mkB t), r) else (0, r.setW i { w with card := addR w.card p (mkB t) })
def dressW (o : Ordr) (w : Wg) : (Int × Wg) × List UInt8 := match o.kind, o.nums with
 | 8, _ => (bleachW w, tBl)
 | 9, [l, t] => (dyeW' w l t, dyeT l t)
 | 10, _ => (plaitW w o.style, tPl ++ o.style)
 | 11, _ => ((0, { w with plait := [] }), tCo)
 | 12, [n] => (trimW w n, tCu ++ Lib.itoa n)
 | _, _ => ((0, w), tWa)
def workR (r : Rm) (o : Ordr) (a : List UInt8) : Int × Rm :=
 if (inW r a 1).1 ≠ 0 then ((inW r a 1).1, r)
 else if (dressW o (inW r a 1).2.2).1.1 ≠ 0 then ((dressW o (inW r a 1).2.2).1.1, r)
 else writeR r (inW r a 1).2.1 (dressW o (inW r a 1).2.2).1.2 0 (dressW o (inW r a 1).2.2).2
def lendR (r : Rm) (a : List UInt8) : Int × Rm :=
 if (inW r a 1).1 ≠ 0 then ((inW r a 1).1, r) else (0, r.setW (inW r a 1).2.1 { (inW r a 1).2.2 with state := 2 })
def backR (r : Rm) (a : List UInt8) (n : Int) : Int × Rm :=
 if (inW r a 2).1 ≠ 0 then ((inW r a 2).1, r)
 else if (inW r a 2).2.2.hairs - (inW r a 2).2.2.shed < n then (6, r)
 else if addE (inW r a 2).2.2.card 1 (mkB (tSh ++ Lib.itoa n)) ≠ 0 then (addE (inW r a 2).2.2.card 1 (mkB (tSh ++ Lib.itoa n)), r)
 else (0, { r.setW (inW r a 2).2.1 { (inW r a 2).2.2 with state := 1, shed := (inW r a 2).2.2.shed + n, card := addR (inW r a 2).2.2.card 1 (mkB (tSh ++ Lib.itoa n)) } with lost := r.lost + n })
def mendR (r : Rm) (a b : List UInt8) (n : Int) : Int × Rm :=
 if (inW r a 1).1 ≠ 0 then ((inW r a 1).1, r) else match r.bun b with
 | none => (5, r)
 | some i => if (inW r a 1).2.2.shed < n then (6, r)
  else if (cutH (r.hr i) (ofH n (inW r a 1).2.2.len)).1 ≠ 0 then ((cutH (r.hr i) (ofH n (inW r a 1).2.2.len)).1, r)
  else if addE (inW r a 1).2.2.card 0 (mkB (tMe ++ Lib.itoa n)) ≠ 0 then (addE (inW r a 1).2.2.card 0 (mkB (tMe ++ Lib.itoa n)), r)
  else (0, (r.setH i (cutH (r.hr i) (ofH n (inW r a 1).2.2.len)).2).setW (inW r a 1).2.1 { (inW r a 1).2.2 with shed := (inW r a 1).2.2.shed - n, card := addR (inW r a 1).2.2.card 0 (mkB (tMe ++ Lib.itoa n)) })
def sellR (r : Rm) (a : List UInt8) (n : Int) : Int × Rm :=
 if (inW r a 1).1 ≠ 0 then ((inW r a 1).1, r)
 else if 0 < (inW r a 1).2.2.shed then (13, r)
 else (0, { r.setW (inW r a 1).2.1 { (inW r a 1).2.2 with state := 3, price := n } with cash := r.cash + n })
def claimR (r : Rm) (a : List UInt8) : Int × Rm :=
 if (inW r a 3).1 ≠ 0 then ((inW r a 3).1, r)
 else if clk (inW r a 3).2.2.card 1 ≤ clk (inW r a 3).2.2.card 0 then (15, r)
 else (0, { r.setW (inW r a 3).2.1 { (inW r a 3).2.2 with state := 1, price := 0 } with cash := r.cash - (inW r a 3).2.2.price })
def doO (r : Rm) (o : Ordr) : Int × Rm := match o.kind, o.names, o.nums with
 | 0, [n], [a, b, c] => buyR r n a b c
 | 1, [n, m], [] => mixR r n m
 | 2, [n, m], [a] => drawR r n m a
 | 3, [n], [a] => hackR r n a
 | 4, [n], [] => turnR r n
 | 5, [n], [a, b, c] => snapR r n a b c
 | 6, [n, m], [a, b] => beginR r n m a b
 | 7, [n], [a] => knotR r n a
 | 14, [n], [] => lendR r n
 | 15, [n], [a] => backR r n a
 | 16, [n, m], [a] => mendR r n m a
 | 17, [n], [a] => sellR r n a
 | 18, [n], [] => claimR r n
 | _, n :: _, _ => workR r o n
 | _, [], _ => (0, r)
def doR (t : List UInt8) (r : Rm) : Int × Rm := match parseO t with
 | none => (3, r)
 | some o => if 300 ≤ r.day.length then (4, r)
  else if (doO r o).1 ≠ 0 then ((doO r o).1, r)
  else (0, { (doO r o).2 with day := (doO r o).2.day ++ [t] })
def runR (l : List (List UInt8)) (r : Rm) : Rm := l.foldl (fun r t => (doR t r).2) r
theorem runR_snoc (l : List (List UInt8)) (t : List UInt8) (r : Rm) : runR (l ++ [t]) r = (doR t (runR l r)).2 := by simp [runR]
theorem doR_refused {t : List UInt8} {r : Rm} (h : (doR t r).1 ≠ 0) : (doR t r).2 = r := by
 unfold doR at h ⊢
 split
 ·rfl
 ·split
  ·rfl
  ·split
   ·rfl
   ·rename_i h1 h2 h3
    rw [h1] at h
    simp only [h2, h3, if_false] at h
    exact absurd rfl h
def inN (n : Int) : Prop := 0 ≤ n ∧ n ≤ 1000000
inductive OrdS : Ordr → Prop
 | nccc (k : Nat) (n : List UInt8) (a b c : Int) (hk : k = 0 ∨ k = 5) (hn : letW n = true) (ha : inN a) (hb : inN b) (hc : inN c) : OrdS ⟨k, [n], [], [a, b, c]⟩
 | nn (n m : List UInt8) (hn : letW n = true) (hm : letW m = true) : OrdS ⟨1, [n, m], [], []⟩
 | ncn (n m : List UInt8) (a : Int) (hn : letW n = true) (hm : letW m = true) (ha : inN a) : OrdS ⟨2, [n, m], [], [a]⟩
 | nc (k : Nat) (n : List UInt8) (a : Int) (hk : k = 3 ∨ k = 7 ∨ k = 12 ∨ k = 15 ∨ k = 17) (hn : letW n = true) (ha : inN a) : OrdS ⟨k, [n], [], [a]⟩
 | n (k : Nat) (n : List UInt8) (hk : k = 4 ∨ k = 8 ∨ k = 11 ∨ k = 13 ∨ k = 14 ∨ k = 18) (hn : letW n = true) : OrdS ⟨k, [n], [], []⟩
 | nncc (n m : List UInt8) (a b : Int) (hn : letW n = true) (hm : letW m = true) (ha : inN a) (hb : inN b) : OrdS ⟨6, [n, m], [], [a, b]⟩
 | ncc (n : List UInt8) (a b : Int) (hn : letW n = true) (ha : inN a) (hb : inN b) : OrdS ⟨9, [n], [], [a, b]⟩
 | ns (n s : List UInt8) (hn : letW n = true) (hs : s ≠ []) : OrdS ⟨10, [n], s, []⟩
 | nnc (n m : List UInt8) (a : Int) (hn : letW n = true) (hm : letW m = true) (ha : inN a) : OrdS ⟨16, [n, m], [], [a]⟩
theorem put0 {o o' : Ordr} {w : List UInt8} (h : putW o 0 w = some o') : letW w = true ∧ o' = { o with names := o.names ++ [w] } := by
 unfold putW at h
 rw [if_pos rfl] at h
 split at h
 ·rename_i hl; injection h with h; exact ⟨hl, h.symm⟩
 ·cases h
theorem put1 {o o' : Ordr} {w : List UInt8} (h : putW o 1 w = some o') : ∃ n, inN n ∧ o' = { o with nums := o.nums ++ [n] } := by
 unfold putW at h
 rw [if_neg (by omega), if_pos rfl] at h
 split at h
 ·rename_i n hn; injection h with h; exact ⟨n, numV_in hn, h.symm⟩
 ·cases h
theorem put2 {o o' : Ordr} {w : List UInt8} (h : putW o 2 w = some o') : w ≠ [] ∧ o' = { o with style := w } := by
 unfold putW at h
 rw [if_neg (by omega), if_neg (by omega)] at h
 split at h
 ·cases h
 ·rename_i hl; injection h with h; exact ⟨hl, h.symm⟩
theorem readO_some {o o' : Ordr} {f : Nat} {fs : List Nat} {w : List UInt8} {ws : List (List UInt8)} (h : readO o (f :: fs) (w :: ws) = some o') : ∃ x, putW o f w = some x ∧ readO x fs ws = some o' := by
 cases hp : putW o f w with
 | none => rw [readO_no hp] at h; cases h
 | some x => exact ⟨x, rfl, by rw [readO_put hp] at h; exact h⟩
theorem cmd_mem {w : List UInt8} {k : Nat} {f : List Nat} (h : cmdOf w = some (k, f)) : (w, k, f) ∈ cmds := by
 unfold cmdOf at h
 cases hf : cmds.find? fun x => x.1 == w with
 | none => rw [hf] at h; cases h
 | some x =>
  rw [hf] at h
  have h1 := List.mem_of_find?_eq_some hf
  have h2 := List.find?_some hf
  simp only [beq_iff_eq] at h2
  simp only [Option.map_some, Option.some.injEq] at h
  rw [← h2, ← h]; exact h1
theorem form_n {k : Nat} {ws : List (List UInt8)} {o : Ordr} (hl : ws.length = 1) (h : readO ⟨k, [], [], []⟩ [0] ws = some o) : ∃ (x0 : List UInt8), letW x0 = true ∧ o = ⟨k, [x0], [], []⟩ := by
 match ws, hl with
 | [w0], _ =>
  obtain ⟨y0, p0, h⟩ := readO_some h
  injection h with h
  obtain ⟨q0, rfl⟩ := put0 p0
  subst h
  exact ⟨w0, q0, rfl⟩
theorem form_nc {k : Nat} {ws : List (List UInt8)} {o : Ordr} (hl : ws.length = 2) (h : readO ⟨k, [], [], []⟩ [0, 1] ws = some o) : ∃ (x0 : List UInt8) (x1 : Int), letW x0 = true ∧ inN x1 ∧ o = ⟨k, [x0], [], [x1]⟩ := by
 match ws, hl with
 | [w0, w1], _ =>
  obtain ⟨y0, p0, h⟩ := readO_some h
  obtain ⟨y1, p1, h⟩ := readO_some h
  injection h with h
  obtain ⟨q0, rfl⟩ := put0 p0
  obtain ⟨n1, q1, rfl⟩ := put1 p1
  subst h
  exact ⟨w0, n1, q0, q1, rfl⟩
theorem form_nccc {k : Nat} {ws : List (List UInt8)} {o : Ordr} (hl : ws.length = 4) (h : readO ⟨k, [], [], []⟩ [0, 1, 1, 1] ws = some o) : ∃ (x0 : List UInt8) (x1 : Int) (x2 : Int) (x3 : Int), letW x0 = true ∧ inN x1 ∧ inN x2 ∧ inN x3 ∧ o = ⟨k, [x0], [], [x1, x2, x3]⟩ := by
 match ws, hl with
 | [w0, w1, w2, w3], _ =>
  obtain ⟨y0, p0, h⟩ := readO_some h
  obtain ⟨y1, p1, h⟩ := readO_some h
  obtain ⟨y2, p2, h⟩ := readO_some h
  obtain ⟨y3, p3, h⟩ := readO_some h
  injection h with h
  obtain ⟨q0, rfl⟩ := put0 p0
  obtain ⟨n1, q1, rfl⟩ := put1 p1
  obtain ⟨n2, q2, rfl⟩ := put1 p2
  obtain ⟨n3, q3, rfl⟩ := put1 p3
  subst h
  exact ⟨w0, n1, n2, n3, q0, q1, q2, q3, rfl⟩
theorem form_nn {k : Nat} {ws : List (List UInt8)} {o : Ordr} (hl : ws.length = 2) (h : readO ⟨k, [], [], []⟩ [0, 0] ws = some o) : ∃ (x0 : List UInt8) (x1 : List UInt8), letW x0 = true ∧ letW x1 = true ∧ o = ⟨k, [x0, x1], [], []⟩ := by
 match ws, hl with
 | [w0, w1], _ =>
  obtain ⟨y0, p0, h⟩ := readO_some h
  obtain ⟨y1, p1, h⟩ := readO_some h
  injection h with h
  obtain ⟨q0, rfl⟩ := put0 p0
  obtain ⟨q1, rfl⟩ := put0 p1
  subst h
  exact ⟨w0, w1, q0, q1, rfl⟩
theorem form_ncn {k : Nat} {ws : List (List UInt8)} {o : Ordr} (hl : ws.length = 3) (h : readO ⟨k, [], [], []⟩ [0, 1, 0] ws = some o) : ∃ (x0 : List UInt8) (x1 : Int) (x2 : List UInt8), letW x0 = true ∧ inN x1 ∧ letW x2 = true ∧ o = ⟨k, [x0, x2], [], [x1]⟩ := by
 match ws, hl with
 | [w0, w1, w2], _ =>
  obtain ⟨y0, p0, h⟩ := readO_some h
  obtain ⟨y1, p1, h⟩ := readO_some h
  obtain ⟨y2, p2, h⟩ := readO_some h
  injection h with h
  obtain ⟨q0, rfl⟩ := put0 p0
  obtain ⟨n1, q1, rfl⟩ := put1 p1
  obtain ⟨q2, rfl⟩ := put0 p2
  subst h
  exact ⟨w0, n1, w2, q0, q1, q2, rfl⟩
theorem form_nncc {k : Nat} {ws : List (List UInt8)} {o : Ordr} (hl : ws.length = 4) (h : readO ⟨k, [], [], []⟩ [0, 0, 1, 1] ws = some o) : ∃ (x0 : List UInt8) (x1 : List UInt8) (x2 : Int) (x3 : Int), letW x0 = true ∧ letW x1 = true ∧ inN x2 ∧ inN x3 ∧ o = ⟨k, [x0, x1], [], [x2, x3]⟩ := by
 match ws, hl with
 | [w0, w1, w2, w3], _ =>
  obtain ⟨y0, p0, h⟩ := readO_some h
  obtain ⟨y1, p1, h⟩ := readO_some h
  obtain ⟨y2, p2, h⟩ := readO_some h
  obtain ⟨y3, p3, h⟩ := readO_some h
  injection h with h
  obtain ⟨q0, rfl⟩ := put0 p0
  obtain ⟨q1, rfl⟩ := put0 p1
  obtain ⟨n2, q2, rfl⟩ := put1 p2
  obtain ⟨n3, q3, rfl⟩ := put1 p3
  subst h
  exact ⟨w0, w1, n2, n3, q0, q1, q2, q3, rfl⟩
theorem form_ncc {k : Nat} {ws : List (List UInt8)} {o : Ordr} (hl : ws.length = 3) (h : readO ⟨k, [], [], []⟩ [0, 1, 1] ws = some o) : ∃ (x0 : List UInt8) (x1 : Int) (x2 : Int), letW x0 = true ∧ inN x1 ∧ inN x2 ∧ o = ⟨k, [x0], [], [x1, x2]⟩ := by
 match ws, hl with
 | [w0, w1, w2], _ =>
  obtain ⟨y0, p0, h⟩ := readO_some h
  obtain ⟨y1, p1, h⟩ := readO_some h
  obtain ⟨y2, p2, h⟩ := readO_some h
  injection h with h
  obtain ⟨q0, rfl⟩ := put0 p0
  obtain ⟨n1, q1, rfl⟩ := put1 p1
  obtain ⟨n2, q2, rfl⟩ := put1 p2
  subst h
  exact ⟨w0, n1, n2, q0, q1, q2, rfl⟩
theorem form_ns {k : Nat} {ws : List (List UInt8)} {o : Ordr} (hl : ws.length = 2) (h : readO ⟨k, [], [], []⟩ [0, 2] ws = some o) : ∃ (x0 : List UInt8) (x1 : List UInt8), letW x0 = true ∧ x1 ≠ [] ∧ o = ⟨k, [x0], x1, []⟩ := by
 match ws, hl with
 | [w0, w1], _ =>
  obtain ⟨y0, p0, h⟩ := readO_some h
  obtain ⟨y1, p1, h⟩ := readO_some h
  injection h with h
  obtain ⟨q0, rfl⟩ := put0 p0
  obtain ⟨q1, rfl⟩ := put2 p1
  subst h
  exact ⟨w0, w1, q0, q1, rfl⟩
theorem form_nnc {k : Nat} {ws : List (List UInt8)} {o : Ordr} (hl : ws.length = 3) (h : readO ⟨k, [], [], []⟩ [0, 0, 1] ws = some o) : ∃ (x0 : List UInt8) (x1 : List UInt8) (x2 : Int), letW x0 = true ∧ letW x1 = true ∧ inN x2 ∧ o = ⟨k, [x0, x1], [], [x2]⟩ := by
 match ws, hl with
 | [w0, w1, w2], _ =>
  obtain ⟨y0, p0, h⟩ := readO_some h
  obtain ⟨y1, p1, h⟩ := readO_some h
  obtain ⟨y2, p2, h⟩ := readO_some h
  injection h with h
  obtain ⟨q0, rfl⟩ := put0 p0
  obtain ⟨q1, rfl⟩ := put0 p1
  obtain ⟨n2, q2, rfl⟩ := put1 p2
  subst h
  exact ⟨w0, w1, n2, q0, q1, q2, rfl⟩
theorem parseO_form {s : List UInt8} {o : Ordr} (h : parseO s = some o) : OrdS o ∧ 1 ≤ s.length ∧ s.length ≤ 60 := by
 unfold parseO at h
 split at h
 ·cases h
 ·rename_i hs
  refine ⟨?_, by omega, by omega⟩
  split at h
  ·cases h
  ·rename_i hd ws _
   unfold wordsO at h
   split at h
   ·rename_i k f hc
    split at h
    ·rename_i hlen
     have hm := cmd_mem hc
     simp only [cmds, List.mem_cons, Prod.mk.injEq, List.not_mem_nil, or_false] at hm
     rcases hm with ⟨-, rfl, rfl⟩ | ⟨-, rfl, rfl⟩ | ⟨-, rfl, rfl⟩ | ⟨-, rfl, rfl⟩ | ⟨-, rfl, rfl⟩ | ⟨-, rfl, rfl⟩ | ⟨-, rfl, rfl⟩ | ⟨-, rfl, rfl⟩ | ⟨-, rfl, rfl⟩ | ⟨-, rfl, rfl⟩ | ⟨-, rfl, rfl⟩ | ⟨-, rfl, rfl⟩ | ⟨-, rfl, rfl⟩ | ⟨-, rfl, rfl⟩ | ⟨-, rfl, rfl⟩ | ⟨-, rfl, rfl⟩ | ⟨-, rfl, rfl⟩ | ⟨-, rfl, rfl⟩ | ⟨-, rfl, rfl⟩
     ·obtain ⟨_, _, _, _, q0, q1, q2, q3, rfl⟩ := form_nccc hlen h
      exact .nccc _ _ _ _ _ (by omega) q0 q1 q2 q3
     ·obtain ⟨_, _, q0, q1, rfl⟩ := form_nn hlen h
      exact .nn _ _ q0 q1
     ·obtain ⟨_, _, _, q0, q1, q2, rfl⟩ := form_ncn hlen h
      exact .ncn _ _ _ q0 q2 q1
     ·obtain ⟨_, _, q0, q1, rfl⟩ := form_nc hlen h
      exact .nc _ _ _ (by omega) q0 q1
     ·obtain ⟨_, q0, rfl⟩ := form_n hlen h
      exact .n _ _ (by omega) q0
     ·obtain ⟨_, _, _, _, q0, q1, q2, q3, rfl⟩ := form_nccc hlen h
      exact .nccc _ _ _ _ _ (by omega) q0 q1 q2 q3
     ·obtain ⟨_, _, _, _, q0, q1, q2, q3, rfl⟩ := form_nncc hlen h
      exact .nncc _ _ _ _ q0 q1 q2 q3
     ·obtain ⟨_, _, q0, q1, rfl⟩ := form_nc hlen h
      exact .nc _ _ _ (by omega) q0 q1
     ·obtain ⟨_, q0, rfl⟩ := form_n hlen h
      exact .n _ _ (by omega) q0
     ·obtain ⟨_, _, _, q0, q1, q2, rfl⟩ := form_ncc hlen h
      exact .ncc _ _ _ q0 q1 q2
     ·obtain ⟨_, _, q0, q1, rfl⟩ := form_ns hlen h
      exact .ns _ _ q0 q1
     ·obtain ⟨_, q0, rfl⟩ := form_n hlen h
      exact .n _ _ (by omega) q0
     ·obtain ⟨_, _, q0, q1, rfl⟩ := form_nc hlen h
      exact .nc _ _ _ (by omega) q0 q1
     ·obtain ⟨_, q0, rfl⟩ := form_n hlen h
      exact .n _ _ (by omega) q0
     ·obtain ⟨_, q0, rfl⟩ := form_n hlen h
      exact .n _ _ (by omega) q0
     ·obtain ⟨_, _, q0, q1, rfl⟩ := form_nc hlen h
      exact .nc _ _ _ (by omega) q0 q1
     ·obtain ⟨_, _, _, q0, q1, q2, rfl⟩ := form_nnc hlen h
      exact .nnc _ _ _ q0 q1 q2
     ·obtain ⟨_, _, q0, q1, rfl⟩ := form_nc hlen h
      exact .nc _ _ _ (by omega) q0 q1
     ·obtain ⟨_, q0, rfl⟩ := form_n hlen h
      exact .n _ _ (by omega) q0
    ·cases h
   ·cases h
end Go.Proofs.YtihhclhpjgeniaaGreatDoor
