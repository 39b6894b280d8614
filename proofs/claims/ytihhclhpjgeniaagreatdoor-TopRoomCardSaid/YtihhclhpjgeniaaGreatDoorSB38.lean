/- Merged texts: Dl Gu -/
import Derived.Test.YtihhclhpjgeniaaGreatDoorSB24
import Derived.Test.YtihhclhpjgeniaaGreatDoorSB35
import Derived.Laws.OwnMore
import Derived.Deep.RegionLaw
import Derived.Lib.SliceRun
namespace Go.Proofs.YtihhclhpjgeniaaGreatDoor
open Go.RowKit Go.Sort
abbrev nbs (l : List NB) : List Value := l.flatMap NB.cells
theorem nbs_length (l : List NB) : (nbs l).length = l.length * 3 := by
 induction l with
 | nil => rfl
 | cons a l ih => show (NB.cells a ++ nbs l).length = _; rw [List.length_append, ih, nb_len, List.length_cons]; omega
theorem nbs_append (a b : List NB) : nbs (a ++ b) = nbs a ++ nbs b := List.flatMap_append
theorem nbs_one (l : List NB) : ∀ u ∈ nbs l, u.oneCell' = true := by
 intro u hu
 obtain ⟨b, _, h⟩ := List.mem_flatMap.1 hu
 exact nb_one b u h
theorem nbs_take (l : List NB) (k : Nat) : (nbs l).take (k * 3) = nbs (l.take k) := by
 induction l generalizing k with
 | nil => simp [nbs]
 | cons a l ih =>
  cases k with
  | zero => simp [nbs]
  | succ k =>
   show (NB.cells a ++ nbs l).take _ = NB.cells a ++ nbs (l.take k)
   rw [← ih k, List.take_append, show (NB.cells a).length = 3 from rfl, show (k + 1) * 3 - 3 = k * 3 by omega, List.take_of_length_le (show (NB.cells a).length ≤ (k + 1) * 3 by show 3 ≤ _; omega)]
theorem nbs_drop (l : List NB) (k : Nat) : (nbs l).drop (k * 3) = nbs (l.drop k) := by
 induction l generalizing k with
 | nil => simp [nbs]
 | cons a l ih =>
  cases k with
  | zero => simp [nbs]
  | succ k =>
   show (NB.cells a ++ nbs l).drop _ = nbs (l.drop k)
   rw [← ih k, List.drop_append, show (NB.cells a).length = 3 from rfl, show (k + 1) * 3 - 3 = k * 3 by omega, List.drop_eq_nil_of_le (show (NB.cells a).length ≤ (k + 1) * 3 by show 3 ≤ _; omega), List.nil_append]
section
variable {w w' : World} {bl g i n cap : Nat} {es : List NB}
theorem row_take (h : w.ownsRow bl 130 3 (.slice (some ⟨g, 0, none⟩) n cap) n (nbs es)) (hi : i ≤ n) : w.ownsRow bl 130 3 (.slice (some ⟨g, 0, none⟩) i cap) i (nbs (es.take i)) := by
 have hl := h.1
 rw [nbs_length] at hl
 refine ⟨by rw [nbs_length, List.length_take]; omega, ?_⟩
 rcases h.2 with ⟨hv, h0⟩ | ⟨g', cap', cur, hv, hb, hh, h1, h2, h3, h4⟩
 ·cases hv
 ·injection hv with e1 e2 e3
  injection e1 with e1
  injection e1 with e1
  subst e1 e3
  refine .inr ⟨g, cap, cur, rfl, hb, hh, by omega, h2, h3, ?_⟩
  rw [← nbs_take, ← h4, List.take_take, Nat.min_eq_left (Nat.mul_le_mul_right 3 hi)]
end
theorem row_spare {w : World} {bl g n cap : Nat} {xs : List Value} (h : w.ownsRow bl 130 3 (.slice (some ⟨g, 0, none⟩) n cap) n xs) {j : Nat} (hj : j < cap * 3) : (w.cell? ⟨g, j, none⟩).isSome = true := by
 rcases h.2 with ⟨hv, h0⟩ | ⟨g', cap', cur, hv, hb, hh, h1, h2, h3, h4⟩
 ·cases hv
 ·injection hv with e1 e2 e3
  injection e1 with e1
  injection e1 with e1
  subst e1 e3
  rw [cell_of_row w g j cur 130 (0, 0) hh]
  simp [h3, hj]
theorem row_behind {w : World} {bl g n cap : Nat} {xs : List Value} (h : w.ownsRow bl 130 3 (.slice (some ⟨g, 0, none⟩) n cap) n xs) {j : Nat} (hj : n * 3 ≤ j) (u : Value) : (w.setCell ⟨g, j, none⟩ u).ownsRow bl 130 3 (.slice (some ⟨g, 0, none⟩) n cap) n xs ∧ w.grownBy (w.setCell ⟨g, j, none⟩ u) (some g) := by
 have := h.stored j u
 rwa [List.set_eq_of_length_le (by rw [h.1]; exact hj)] at this
theorem step_fits {ops : Array Oper} {o : Oper} {a : Act} {K : Act → World → Prop} {Q : Exit → Act → World → Prop} {E : Prop} (hgd : o.guard = none) (s x : Operand)
  (ho : o.op = .call { callee := .builtin .append, args := #[s, x], argTypes := #[105, 105] })
  (bl : Nat) (w : World) (g i cap m c : Nat) (es news : List NB) (ad : Addr) (hs : a.eval s = .slice (some ⟨g, 0, none⟩) i cap) (hown : w.ownsRow bl 130 3 (.slice (some ⟨g, 0, none⟩) i cap) i (nbs es))
  (hx : a.eval x = .slice (some ad) m c) (hl : news.length = m) (hnews : ∀ j u, (nbs news)[j]? = some u → w.cell? (ad.add j) = some u) (hroom : i + m ≤ cap)
  (h : ∀ w', w'.ownsRow bl 130 3 (.slice (some ⟨g, 0, none⟩) (i + m) cap) (i + m) (nbs (es ++ news)) → w.grownBy w' (some g) → K (a.put o.dst (.slice (some ⟨g, 0, none⟩) (i + m) cap)) w') :
  if Region.wanted o (yielded ops a.tmps) = true then Oper.wp Tryz.prog o a w K Q else E := by
 have hw : Region.wanted o (yielded ops a.tmps) = true := by simp [Region.wanted, hgd]
 rw [if_pos hw]
 obtain ⟨i0, hi, hz0, hz1, hz2⟩ := info_parts info130
 obtain ⟨w', hr, h1, h2⟩ := run_append_fits (P := Tryz.prog) w bl 105 o.type 130 i0 3 Tryz.underlying105 hi hz1 g i cap (nbs es) hown ad m c (nbs news) (by rw [nbs_length, hl]) hnews (nbs_one _) hroom
 rw [← nbs_append] at h1
 unfold Oper.wp execOp
 simp only [ho, resolve, invoke, builtin, Sem.run_bind, Sem.run_pure, Result.andThen_ok, List.map_toArray, List.map_cons, List.map_nil, hs, hx, hr]
 exact h w' h1 h2
theorem run_clear3 (w : World) (ty : TypeId) (b o c : Nat)
  (hc : ∀ j, j < 3 → (w.cell? ⟨b, o + j, none⟩).isSome = true) (hf : ∀ j, j < 3 → w.frozen? ⟨b, o + j, none⟩ = false) :
  (Builtin.clear_ #[105] ty #[.slice (some ⟨b, o, none⟩) 1 c]).run Tryz.prog w = .ok (.tuple #[]) (w.setCells b o [.string (ByteArray.mk #[]), .slice none 0 0, .slice none 0 0]) := by
 have hzc : (Builtin.zeroCells (Value.agg #[.string (ByteArray.mk #[]), .slice none 0 0, .slice none 0 0]).cells 1).toList = [.string (ByteArray.mk #[]), .slice none 0 0, .slice none 0 0] := by
  show ((Array.range 3).map _).toList = _
  rw [Array.toList_map, Array.toList_range]
  rfl
 have hst := run_storeCells_cells (P := Tryz.prog) b o [.string (ByteArray.mk #[]), .slice none 0 0, .slice none 0 0] 0 w (by simpa using hc) (by simpa using hf) (by intro v hv'; simp at hv'; rcases hv' with rfl | rfl <;> rfl)
 simp only [Nat.add_zero] at hst
 simp [Builtin.clear_, run_underlying Tryz.underlying105, hzc, hst]
theorem cleared {w : World} {bl g m cap : Nat} {xs : List Value} (h : w.ownsRow bl 130 3 (.slice (some ⟨g, 0, none⟩) m cap) m xs) (hm : m + 1 ≤ cap) :
  (∀ ty, (Builtin.clear_ #[105] ty #[.slice (some ⟨g, m * 3, none⟩) 1 (cap - m)]).run Tryz.prog w = .ok (.tuple #[]) (w.setCells g (m * 3) [.string (ByteArray.mk #[]), .slice none 0 0, .slice none 0 0])) ∧
  (w.setCells g (m * 3) [.string (ByteArray.mk #[]), .slice none 0 0, .slice none 0 0]).ownsRow bl 130 3 (.slice (some ⟨g, 0, none⟩) m cap) m xs ∧ w.grownBy (w.setCells g (m * 3) [.string (ByteArray.mk #[]), .slice none 0 0, .slice none 0 0]) (some g) := by
 refine ⟨fun ty => run_clear3 w ty g (m * 3) _ (fun j hj => row_spare h (by omega)) (fun j hj => h.frozenAt _), ?_⟩
 obtain ⟨a1, a2⟩ := row_behind h (j := m * 3) (by omega) (.string (ByteArray.mk #[]))
 obtain ⟨b1, b2⟩ := row_behind a1 (j := m * 3 + 1) (by omega) (.slice none 0 0)
 obtain ⟨c1, c2⟩ := row_behind b1 (j := m * 3 + 1 + 1) (by omega) (.slice none 0 0)
 exact ⟨c1, (a2.trans b2).trans c2⟩
set_option maxRecDepth 10000 in
theorem delete_any (bl g n cap i : Nat) (es : List NB) (w : World) (h : w.ownsRow bl 130 3 (.slice (some ⟨g, 0, none⟩) n cap) n (nbs es)) (hn : n ≤ 1000000) (hi : i < n) :
  Calls Tryz.prog 221 #[.slice (some ⟨g, 0, none⟩) n cap, .int .i64 (i : Int), .int .i64 ((i : Int) + 1)] w fun r w' => r = .returned (.slice (some ⟨g, 0, none⟩) (n - 1) cap) ∧
   w'.ownsRow bl 130 3 (.slice (some ⟨g, 0, none⟩) (n - 1) cap) (n - 1) (nbs (es.take i ++ es.drop (i + 1))) ∧ w.grownBy w' (some g) := by
 have H := Lib.hid h
 obtain ⟨hcap, hcm⟩ := row_cap h
 unfold maxLen at hcm
 clear h
 obtain ⟨m, rfl⟩ : ∃ m, n = m + 1 := ⟨n - 1, by omega⟩
 rw [Nat.add_sub_cancel]
 have hsrc := Lib.hid (fun j u (hj : (nbs (es.drop (i + 1)))[j]? = some u) => show w.drew.cell? ((⟨g, (i + 1) * 3, none⟩ : Addr).add j) = some u from by
  rw [← nbs_drop, List.getElem?_drop] at hj
  have hjl := (List.getElem?_eq_some_iff.1 hj).1
  have hl := H.out.1
  rw [hl] at hjl
  rw [Addr.add_lit]
  exact (H.out.cellAt _ hjl).trans hj)
 have HT := Lib.hid (row_take H.out (show i ≤ m + 1 by omega)).drew
 have HL := Lib.hid (show es.length = m + 1 by have := H.out.1; rw [nbs_length] at this; omega)
 have k0 : (0 : Int) ≤ (i : Int) := by omega
 have k1 : (i : Int) ≤ (cap : Int) := by omega
 have k2 : (0 : Int) ≤ (i : Int) + 1 := by omega
 have k3 : (i : Int) + 1 ≤ (cap : Int) := by omega
 have k4 : (i : Int) + 1 ≤ (m : Int) + 1 := by omega
 have k5 : ((i : Int) + 1).toNat = i + 1 := by omega
 have k6 : (i : Int) ≤ (i : Int) + 1 := by omega
 have k7 : i ≤ cap := by omega
 have k8 : i + 1 ≤ cap := by omega
 have k9 : (m : Int) + 1 ≤ (cap : Int) := by omega
 have ka : (m : Int) ≤ (cap : Int) := by omega
 have kb : cap ≠ m := by omega
 by_cases hc : cap = i + 1
 ·have hD := Lib.hid (show es.drop (i + 1) = [] from List.drop_eq_nil_of_le (by rw [HL.out]; omega))
  obtain rfl : i = m := by omega
  subst hc
  go_enter Tryz.func221, Tryz.ntmps221
  go_wp2_with fail
  go_region_law (refine step_fits rfl (.tmp 22) (.tmp 25) rfl bl w.drew g i (i + 1) 0 0 (es.take i) (es.drop (i + 1)) ⟨g, 0, none⟩ (by simp [Act.eval, Act.put]) HT.out (by simp [Act.eval, Act.put]) (by rw [hD.out]; rfl) (by rw [hD.out]; intro j u hj; simp [nbs] at hj) (by omega) ?_; intro w2 hr hg; have HR := Lib.hid hr; have HG := Lib.hid hg; clear hr hg)
  rw [Nat.add_zero] at HR
  obtain ⟨q1, q2, q3⟩ := cleared HR.out (Nat.le_refl _)
  rw [show i + 1 - i = 1 by omega] at q1
  have Q2 := Lib.hid q2
  have Q3 := Lib.hid (HG.out.trans q3)
  clear q2 q3 HR HG HT
  go_wp2_with fail
  go_ret
  exact ⟨rfl, Q2.out, ⟨Q3.out.os, Q3.out.tape, Q3.out.output, Q3.out.size, Q3.out.block⟩⟩
 ·have hc2 : (cap : Int) ≠ (i : Int) + 1 := by omega
  go_enter Tryz.func221, Tryz.ntmps221
  go_wp2_with fail
  go_region_law (refine step_fits rfl (.tmp 22) (.tmp 25) rfl bl w.drew g i cap (m - i) (cap - (i + 1)) (es.take i) (es.drop (i + 1)) ⟨g, (i + 1) * 3, none⟩ (by simp [Act.eval, Act.put]) HT.out (by simp [Act.eval, Act.put]) (by rw [List.length_drop, HL.out]; omega) hsrc.out (by omega) ?_; intro w2 hr hg; have HR := Lib.hid hr; have HG := Lib.hid hg; clear hr hg)
  have he : i + (m - i) = m := by omega
  rw [he] at HR ⊢
  obtain ⟨q1, q2, q3⟩ := cleared HR.out (by omega)
  have Q2 := Lib.hid q2
  have Q3 := Lib.hid (HG.out.trans q3)
  clear q2 q3 HR HG HT
  go_wp2_with fail
  go_ret
  exact ⟨rfl, Q2.out, ⟨Q3.out.os, Q3.out.tape, Q3.out.output, Q3.out.size, Q3.out.block⟩⟩
end Go.Proofs.YtihhclhpjgeniaaGreatDoor
namespace Go.Proofs.YtihhclhpjgeniaaGreatDoor
open Go.RowKit Go.Sort
theorem RV.In.delB {v : RV} {s : Int} {p : Nat} {w : World} (h : v.In s p w) {g k : Nat} (hg : v.A = some ⟨g, 0, none⟩) (hk : k < v.bs.length) {w1 : World}
  (ho : w1.ownsRow 0 130 3 (.slice (some ⟨g, 0, none⟩) (v.bs.length - 1) v.ca) (v.bs.length - 1) (nbs (v.bs.take k ++ v.bs.drop (k + 1)))) (hgr : w.grownBy w1 (some g)) :
  ({ v with bs := v.bs.take k ++ v.bs.drop (k + 1) } : RV).In s p (w1.setCell ⟨p, 2, none⟩ (.slice (some ⟨g, 0, none⟩) (v.bs.length - 1) v.ca)) ∧ Kp (fun j => j = p ∨ j = g) w (w1.setCell ⟨p, 2, none⟩ (.slice (some ⟨g, 0, none⟩) (v.bs.length - 1) v.ca)) ∧
   (∀ j, ({ v with bs := v.bs.take k ++ v.bs.drop (k + 1) } : RV).C j → v.C j) := by
 obtain ⟨n1, n2, n3, n4⟩ := h.ne_b hg
 obtain ⟨m1, m2, m3, m4⟩ := h.ne_p
 have k1 := kp_of_grown hgr
 have k2 : Kp (fun j => j = p ∨ j = g) w (w1.setCell ⟨p, 2, none⟩ (.slice (some ⟨g, 0, none⟩) (v.bs.length - 1) v.ca)) := (k1.mono fun x e => .inr e).set (p := ⟨p, 2, none⟩) (fun _ => .inl rfl) _
 have hS : ∀ j, (j = p ∨ j = g) → v.F p j := by
  rintro j (rfl | rfl)
  ·exact .inl rfl
  ·exact .inr (.inr (.inl ⟨_, hg, rfl⟩))
 have hlen : (v.bs.take k ++ v.bs.drop (k + 1)).length = v.bs.length - 1 := by rw [List.length_append, List.length_take, List.length_drop]; omega
 have hmem : ∀ x, x ∈ v.bs.take k ++ v.bs.drop (k + 1) → x ∈ v.bs := fun x hx => by
  rcases List.mem_append.1 hx with h | h
  ·exact List.mem_of_mem_take h
  ·exact List.mem_of_mem_drop h
 have hC : ∀ j, ({ v with bs := v.bs.take k ++ v.bs.drop (k + 1) } : RV).C j → v.C j := by
  rintro j (⟨x, hx, hj⟩ | hj)
  ·exact .inl ⟨x, hmem x hx, hj⟩
  ·exact .inr hj
 refine ⟨⟨?_, ?_, ?_, ?_, ?_, ?_, ?_, fun j hj => h.sep j (hC j hj), fun j hj => h.g j (hj.imp id (hC j))⟩, k2, hC⟩
 ·have := (h.room.kp k1 fun e => n1 e.symm).set 2 (.slice (some ⟨g, 0, none⟩) (v.bs.length - 1) v.ca)
  have e : ({ v with bs := v.bs.take k ++ v.bs.drop (k + 1) } : RV).cells s = (v.cells s).setIfInBounds 2 (.slice (some ⟨g, 0, none⟩) (v.bs.length - 1) v.ca) := by
   unfold RV.cells
   dsimp only
   rw [hlen, hg]
   simp
  rw [e]; exact this
 ·show World.ownsRow _ 0 130 3 (.slice v.A (v.bs.take k ++ v.bs.drop (k + 1)).length v.ca) (v.bs.take k ++ v.bs.drop (k + 1)).length _
  rw [hlen, hg]
  exact row_far ho (fun j hj e => by
   obtain ⟨a, ha, hb⟩ := ownb hj
   injection ha with ha
   subst ha
   exact n1 (hb.trans e)) _
 ·exact own_kp h.rw k2 fun j hj e => by
   obtain ⟨a, ha, hj'⟩ := ownb hj
   rcases e with e | e
   ·exact m3 a ha (hj'.trans e)
   ·exact n3 a ha (hj'.trans e)
 ·exact own_kp h.rd k2 fun j hj e => by
   obtain ⟨a, ha, hj'⟩ := ownb hj
   rcases e with e | e
   ·exact m4 a ha (hj'.trans e)
   ·exact n4 a ha (hj'.trans e)
 ·refine h.mp.kp k2 ?_
  rintro (e | e)
  ·exact m1 e.symm
  ·exact n2 e.symm
 ·intro x hx
  exact (h.hb x (hmem x hx)).kb k2 (fun j hj e => h.sep j (.inl ⟨x, hmem x hx, .inl hj⟩) (hS j e)) (fun j hj e => h.sep j (.inl ⟨x, hmem x hx, .inr hj⟩) (hS j e))
 ·exact fun x hx => ⟨(h.hw x hx).1.kb k2 (fun j hj e => h.sep j (.inr ⟨x, hx, hj⟩) (hS j e)), (h.hw x hx).2⟩
set_option maxRecDepth 100000 in
set_option maxHeartbeats 1000000 in
theorem mixO_any (v : RV) (st : Int) (p : Nat) (x : OV) (a b : List UInt8) (w : World) (h : v.In st p w) (hx : x.In w) (han : x.o.names[0]? = some a) (hbn : x.o.names[1]? = some b) (ht : Tab w) (hlb : v.bs.length ≤ 12) :
  Calls Tryz.prog 157 #[.pointer (some ⟨p, 0, none⟩), .agg x.arr] w (RetO v st p w (mixR v.rm a b)) := by
 have H0 := Lib.hid h
 have HS := Lib.hid (OS.box h hx ht)
 have HB := Lib.hid (belowA w (.cells x.arr 114))
 obtain ⟨ad, e1, -, hk1, -⟩ := hx.name hbn
 have hk0 : (0 : Int) < (x.n : Int) := by omega
 have hk3 : (1 : Int) < (x.n : Int) := by omega
 have hkn0 : 0 < x.n := by omega
 clear h hx ht hk1
 go_enter Tryz.func157, Tryz.ntmps157
 go_wp2_with fail
 refine gen_at (M := fun W => Code.wp Tryz.prog _ _ _ W) (fun W => OS st p w.heap.size v x W ∧ Below w.heap.size w W) ⟨HS.out, HB.out⟩ ?_
 clear HS HB
 rintro w1 ⟨hs, hb⟩
 have HS := Lib.hid hs
 have HB := Lib.hid hb
 clear hs hb
 refine wp_region_hj [0, 1, 2, 3, 4, 5, 6, 7, 8, 9, 10, 11] [] [12, 13] (fun W => OS st p w.heap.size v x W) mixed (by kernel_rfl) (fun W W' h hb => h.below hb) (HS.out.below (below_drew _)) ?_
 iterate 5
  refine canonG_read (v := ?_) rfl (by rfl) ?_ ?_
  rotate_left
  ·intro W hS
   have ck := hS.k.cell
   have c3 : W.cell? ⟨w.heap.size, 3, none⟩ = some (.slice x.A x.n x.c) := hS.k.cell 3
   rw [e1] at c3
   obtain ⟨ad4, e4, hc4, -, -⟩ := hS.o.name (k := 0) han
   have z4 : ad4 = ad := by rw [e1] at e4; injection e4 with e4; exact e4.symm
   rw [z4, show ad.add 0 = ad from rfl] at hc4
   clear e4 z4
   go_simp <;> with_reducible rfl
  simp only [List.getElem_toArray, List.getElem_cons_zero, List.getElem_cons_succ, Act.put, List.setIfInBounds_toArray, List.set_cons_succ, List.set_cons_zero]
 refine canonG_call (v := .int .i64 (idxI (v.rm.bun a))) (f := 68) (args := #[.pointer (some ⟨p, 0, none⟩), .string (mkB a)]) rfl (by rfl) ?_ ?_ ?_
 ·intro W hS
  go_simp
 ·intro W hS
  exact bundleR_any v st p a W hS.a hlb
 simp only [List.getElem_toArray, List.getElem_cons_zero, List.getElem_cons_succ, Act.put, List.setIfInBounds_toArray, List.set_cons_succ, List.set_cons_zero]
 iterate 5
  refine canonG_read (v := ?_) rfl (by rfl) ?_ ?_
  rotate_left
  ·intro W hS
   have ck := hS.k.cell
   have c3 : W.cell? ⟨w.heap.size, 3, none⟩ = some (.slice x.A x.n x.c) := hS.k.cell 3
   rw [e1] at c3
   obtain ⟨ad4, e4, hc4, -, -⟩ := hS.o.name (k := 1) hbn
   have z4 : ad4 = ad := by rw [e1] at e4; injection e4 with e4; exact e4.symm
   rw [z4, show ad.add 1 = ⟨ad.block, ad.off + 1, none⟩ from rfl] at hc4
   clear e4 z4
   go_simp <;> with_reducible rfl
  simp only [List.getElem_toArray, List.getElem_cons_zero, List.getElem_cons_succ, Act.put, List.setIfInBounds_toArray, List.set_cons_succ, List.set_cons_zero]
 refine canonG_call (v := .int .i64 (idxI (v.rm.bun b))) (f := 68) (args := #[.pointer (some ⟨p, 0, none⟩), .string (mkB b)]) rfl (by rfl) ?_ ?_ ?_
 ·intro W hS
  go_simp
 ·intro W hS
  exact bundleR_any v st p b W hS.a hlb
 simp only [List.getElem_toArray, List.getElem_cons_zero, List.getElem_cons_succ, Act.put, List.setIfInBounds_toArray, List.set_cons_succ, List.set_cons_zero]
 refine canonG_nil ?_
 refine tailJ_one (t := 12) (ts' := [13]) (ps' := []) (ns := []) (by kernel_rfl) rfl (by kernel_rfl) (by kernel_rfl) rfl ?_
 intro W2 hb
 have BW2 : Hid (Below w1.heap.size w1 W2) := Lib.hid (undrew hb)
 clear hb
 go_wp2_with fail
 refine ⟨HS.out.below BW2.out, canonG_nil ?_⟩
 refine tailJ_last (t := 13) (by kernel_rfl) rfl ?_
 intro W3 hb
 have BW3 := Lib.hid (below_trans' BW2.out hb)
 clear hb
 have HS3 := Lib.hid (HS.out.below BW3.out)
 have HB3 := Lib.hid (below_trans' HB.out BW3.out)
 clear HS HB BW2 BW3
 go_wp2_with fail
 refine NoPanic.normal ?_
 cases hba : v.rm.bun a with
 | none =>
  have HL : Hid (mixR v.rm a b = (5, v.rm)) := Lib.hid (by unfold mixR; rw [hba])
  rw [show idxI none = -1 from rfl]
  go_wp2_with fail
  go_ret
  exact retO_no HL.out HS3.out.a HB3.out
 | some i =>
 rw [show idxI (some i) = (i : Int) from rfl]
 have hin : ¬ ((i : Int) < 0) := by omega
 cases hbb : v.rm.bun b with
 | none =>
  have HL : Hid (mixR v.rm a b = (5, v.rm)) := Lib.hid (by unfold mixR; rw [hba, hbb])
  rw [show idxI none = -1 from rfl]
  go_wp2_with fail
  go_ret
  exact retO_no HL.out HS3.out.a HB3.out
 | some k =>
 rw [show idxI (some k) = (k : Int) from rfl]
 have hkn : ¬ ((k : Int) < 0) := by omega
 have HL0 : Hid (mixR v.rm a b = if i = k then (1, v.rm)
  else if (mixH (v.rm.hr i) (v.rm.hr k)).1 ≠ 0 then ((mixH (v.rm.hr i) (v.rm.hr k)).1, v.rm)
  else (0, { v.rm.setH i (mixH (v.rm.hr i) (v.rm.hr k)).2 with bs := (v.rm.setH i (mixH (v.rm.hr i) (v.rm.hr k)).2).bs.eraseIdx k })) := Lib.hid (by unfold mixR; rw [hba, hbb])
 by_cases hik : i = k
 ·have hik1 : ((i : Int) == (k : Int)) = true := beq_iff_eq.2 (by omega)
  rw [if_pos hik] at HL0
  subst hik
  go_wp2_with fail
  go_ret
  exact retO_no HL0.out HS3.out.a HB3.out
 have hik1 : ((i : Int) == (k : Int)) = false := beq_false_of_ne (fun e => hik (by omega))
 rw [if_neg hik] at HL0
 obtain ⟨y1, hy1⟩ : ∃ y1 : NB, v.bs[i]? = some y1 := by
  rw [bun_idx] at hba
  obtain ⟨hk, _⟩ := List.findIdx?_eq_some_iff_getElem.1 hba
  exact ⟨v.bs[i], List.getElem?_eq_getElem hk⟩
 obtain ⟨y2, hy2, gb, hgb⟩ : ∃ y2 : NB, v.bs[k]? = some y2 ∧ ∃ gb, v.A = some ⟨gb, 0, none⟩ := by
  rw [bun_idx] at hbb
  obtain ⟨hk, _⟩ := List.findIdx?_eq_some_iff_getElem.1 hbb
  refine ⟨v.bs[k], List.getElem?_eq_getElem hk, ?_⟩
  exact own_form HS3.out.a.rb (by omega)
 have HB1 := Lib.hid hy1
 have HB2 := Lib.hid hy2
 have HGB := Lib.hid hgb
 have hkl : k < v.bs.length := (List.getElem?_eq_some_iff.1 hy2).1
 have hkl' : (k : Int) < (v.bs.length : Int) := by omega
 have hil : i < v.bs.length := (List.getElem?_eq_some_iff.1 hy1).1
 have hil' : (i : Int) < (v.bs.length : Int) := by omega
 have hh1 : v.rm.hr i = y1.v.h := by rw [bs_at, hy1]; rfl
 have hh2 : v.rm.hr k = y2.v.h := by rw [bs_at, hy2]; rfl
 rw [hh1, hh2] at HL0
 clear hy1 hy2 hgb hh1 hh2 hba hbb
 have HIK := Lib.hid hik
 go_wp2_with fail
 clear hik hik1
 refine wp_region_hj [0, 1, 2, 3, 4, 5, 6, 7, 8, 9, 10, 11, 12, 13, 14, 15] [17, 18, 19] [16, 20, 21, 22] (fun W => OS st p w.heap.size v x W) mixed (by kernel_rfl) (fun W W' h hb => h.below hb) (HS3.out.below (below_drew _)) ?_
 iterate 16
  refine canonG_read (v := ?_) rfl (by rfl) ?_ ?_
  rotate_left
  ·intro W hS
   have hrob := hS.a.rb
   have c2 : W.cell? ⟨p, 2, none⟩ = some (.slice v.A v.bs.length v.ca) := At.cell hS.a.room 2
   rw [HGB.out] at c2 hrob
   have b1 : W.cell? ⟨gb, k * 3 + 1, none⟩ = some (.slice y2.v.A y2.v.n y2.v.c) := own_cell nb_len (by omega) hrob HB2.out (j := 1) (by omega)
   have b2 : W.cell? ⟨gb, k * 3 + 1 + 1, none⟩ = some (.slice y2.v.B y2.v.m y2.v.d) := own_cell nb_len (by omega) hrob HB2.out (j := 2) (by omega)
   have b3 : W.cell? ⟨gb, i * 3 + 1, none⟩ = some (.slice y1.v.A y1.v.n y1.v.c) := own_cell nb_len (by omega) hrob HB1.out (j := 1) (by omega)
   have b4 : W.cell? ⟨gb, i * 3 + 1 + 1, none⟩ = some (.slice y1.v.B y1.v.m y1.v.d) := own_cell nb_len (by omega) hrob HB1.out (j := 2) (by omega)
   clear hrob
   go_simp <;> with_reducible rfl
  simp only [List.getElem_toArray, List.getElem_cons_zero, List.getElem_cons_succ, Act.put, List.setIfInBounds_toArray, List.set_cons_succ, List.set_cons_zero]
 refine canonG_nil ?_
 apply later
 ·intro fin
  refine tailJ_two (t := 16) (t' := 20) (ts1 := [20, 21, 22]) (ps1 := []) (ns1 := [17, 18, 19]) (ts2 := [16, 21, 22]) (ps2 := [17, 18, 19]) (ns2 := []) (by kernel_rfl) rfl (by kernel_rfl) (by kernel_rfl) rfl (by kernel_rfl) (by kernel_rfl) rfl rfl ?_ ?_
  ·skip
   intro W6 hb
   have BW6 : Hid (Below W3.heap.size W3 W6) := Lib.hid (undrew hb)
   clear hb
   have hy1 := (HS3.out.below BW6.out).a.hb y1 (List.mem_of_getElem? HB1.out)
   have hy2 := (HS3.out.below BW6.out).a.hb y2 (List.mem_of_getElem? HB2.out)
   go_wp2_with fail
   with_reducible refine (mix_any y1.v y2.v W6 hy1 hy2).mono ?_
   rintro _ W7 ⟨c, hc, rfl, hci, hcn, hb⟩
   have HC := Lib.hid hc
   have BW7 := Lib.hid (below_trans' BW6.out hb)
   have C_cW7 := Lib.hid hci
   have N_c : Hid (c.New W3.heap.size) := Lib.hid (hcn.mono BW6.out.size)
   clear hb hci hcn hc hy1 hy2
   try clear BW6
   go_wp2_with fail
   refine ⟨HS3.out.below BW7.out, ?_⟩
   iterate 3
    refine canonG_read (v := ?_) rfl (by rfl) ?_ ?_
    rotate_left
    ·intro W hS
     go_simp <;> with_reducible rfl
    simp only [List.getElem_toArray, List.getElem_cons_zero, List.getElem_cons_succ, Act.put, List.setIfInBounds_toArray, List.set_cons_succ, List.set_cons_zero]
   refine canonG_nil ?_
   refine tailJ_one (t := 20) (ts' := [21, 22]) (ps' := []) (ns := []) (by kernel_rfl) rfl (by kernel_rfl) (by kernel_rfl) rfl ?_
   intro W8 hb
   have BW8 := Lib.hid (below_trans' BW7.out hb)
   have C_cW8 := Lib.hid (C_cW7.out.below hb)
   clear hb
   try clear BW7 C_cW7
   go_wp2_with fail
   have hb := belowA W8 (.cells noArr 56)
   have k := At.new W8 noArr 56
   have BA := Lib.hid (below_trans' BW8.out hb)
   have KA := Lib.hid k
   have L_q := BW8.out.size
   have C_cA := Lib.hid (C_cW8.out.below hb)
   clear hb k
   refine ⟨HS3.out.below BA.out, canonG_nil ?_⟩
   generalize hQ : W8.heap.size = q at KA L_q ⊢
   generalize W8.alloc (.cells noArr 56) = W9 at BA KA C_cA ⊢
   have X_c_q : Hid (∀ k, blk c.A c.n k ∨ blk c.B c.m k → k ≠ q) := Lib.hid (fun k hk => by have := hk.elim C_cW8.out.r.blk_lt C_cW8.out.s.blk_lt; omega)
   clear hQ
   have BW9 := BA
   have K_qW9 := KA
   have C_cW9 := C_cA
   clear BA KA C_cA
   try clear BW8 C_cW8
   revert BW9
   revert C_cW9
   revert K_qW9
   revert L_q
   revert N_c
   revert X_c_q
   revert HC
   revert q
   revert c
   revert W9
   exact fin
  ·skip
   intro W6 hb
   have BW6 : Hid (Below W3.heap.size W3 W6) := Lib.hid (undrew hb)
   clear hb
   go_wp2_with fail
   have hb := belowA W6 (.cells noArr 56)
   have k := At.new W6 noArr 56
   have BA := Lib.hid (below_trans' BW6.out hb)
   have KA := Lib.hid k
   have L_q := BW6.out.size
   clear hb k
   refine ⟨HS3.out.below BA.out, canonG_nil ?_⟩
   generalize hQ : W6.heap.size = q at KA L_q ⊢
   generalize W6.alloc (.cells noArr 56) = W7 at BA KA  ⊢
   clear hQ
   have BW7 := BA
   have K_qW7 := KA
   clear BA KA 
   try clear BW6
   refine tailJ_one (t := 16) (ts' := [21, 22]) (ps' := []) (ns := [17, 18, 19]) (by kernel_rfl) rfl (by kernel_rfl) (by kernel_rfl) rfl ?_
   intro W8 hb
   have BW8 := Lib.hid (below_trans' BW7.out hb)
   have K_qW8 := Lib.hid (K_qW7.out.below hb)
   clear hb
   try clear BW7 K_qW7
   have hy1 := (HS3.out.below BW8.out).a.hb y1 (List.mem_of_getElem? HB1.out)
   have hy2 := (HS3.out.below BW8.out).a.hb y2 (List.mem_of_getElem? HB2.out)
   go_wp2_with fail
   with_reducible refine (mix_any y1.v y2.v W8 hy1 hy2).mono ?_
   rintro _ W9 ⟨c, hc, rfl, hci, hcn, hb⟩
   have HC := Lib.hid hc
   have BW9 := Lib.hid (below_trans' BW8.out hb)
   have K_qW9 := Lib.hid (K_qW8.out.below hb)
   have C_cW9 := Lib.hid hci
   have N_c : Hid (c.New W3.heap.size) := Lib.hid (hcn.mono BW8.out.size)
   have X_c_q : Hid (∀ k, blk c.A c.n k ∨ blk c.B c.m k → k ≠ q) := Lib.hid (fun k hk e => by have h1 := hcn k hk; have h2 := K_qW8.out.lt; omega)
   clear hb hci hcn hc hy1 hy2
   try clear BW8 K_qW8
   go_wp2_with fail
   refine ⟨HS3.out.below BW9.out, ?_⟩
   iterate 3
    refine canonG_read (v := ?_) rfl (by rfl) ?_ ?_
    rotate_left
    ·intro W hS
     go_simp <;> with_reducible rfl
    simp only [List.getElem_toArray, List.getElem_cons_zero, List.getElem_cons_succ, Act.put, List.setIfInBounds_toArray, List.set_cons_succ, List.set_cons_zero]
   refine canonG_nil ?_
   revert BW9
   revert C_cW9
   revert K_qW9
   revert L_q
   revert N_c
   revert X_c_q
   revert HC
   revert q
   revert c
   revert W9
   exact fin
 ·intro W5 c q HC X_c_q N_c L_q K_qW5 C_cW5 BW5
  refine tailJ_one (t := 21) (ts' := [22]) (ps' := []) (ns := []) (by kernel_rfl) rfl (by kernel_rfl) (by kernel_rfl) rfl ?_
  intro W6 hb
  have BW6 := Lib.hid (below_trans' BW5.out hb)
  have C_cW6 := Lib.hid (C_cW5.out.below hb)
  have K_qW6 := Lib.hid (K_qW5.out.below hb)
  clear hb
  have fr := K_qW6.out.fz
  have cr := K_qW6.out.cell
  have BA := Lib.hid (below_put (below_put BW6.out (p := ⟨q, 0, none⟩) L_q (.slice c.A c.n c.c)) (p := ⟨q, 1, none⟩) L_q (.slice c.B c.m c.d))
  have K_qA : Hid (At _ q c.arr 56) := Lib.hid ((K_qW6.out.set 0 (.slice c.A c.n c.c)).set 1 (.slice c.B c.m c.d))
  have C_cA := Lib.hid ((C_cW6.out.kb (S := fun x => x = q) (((Kp.refl (fun x => x = q) W6).set (p := ⟨q, 0, none⟩) (fun _ => rfl) (.slice c.A c.n c.c)).set (p := ⟨q, 1, none⟩) (fun _ => rfl) (.slice c.B c.m c.d))) (fun j hj => X_c_q.out j (.inl hj)) (fun j hj => X_c_q.out j (.inr hj)))
  go_wp2_with fail
  refine ⟨HS3.out.below BA.out, canonG_nil ?_⟩
  generalize (W6.setCell ⟨q, 0, none⟩ (.slice c.A c.n c.c)).setCell ⟨q, 1, none⟩ (.slice c.B c.m c.d) = W7 at BA K_qA C_cA ⊢
  have BW7 := BA
  have K_qW7 := K_qA
  have C_cW7 := C_cA
  clear BA K_qA C_cA fr cr
  try clear BW6 K_qW6 C_cW6
  refine tailJ_last (t := 22) (by kernel_rfl) rfl ?_
  intro W8 hb
  have BW8 := Lib.hid (below_trans' BW7.out hb)
  have C_cW8 := Lib.hid (C_cW7.out.below hb)
  have K_qW8 := Lib.hid (K_qW7.out.below hb)
  clear hb
  go_wp2_with fail
  refine NoPanic.normal ?_
  have HI := Lib.hid (HS3.out.below BW8.out)
  have HBB := Lib.hid (below_trans' HB3.out BW8.out)
  rw [← HC.out] at HL0
  generalize (mixH y1.v.h y2.v.h).1 = er at HL0 ⊢
  by_cases hz : er = 0
  rotate_left
  ·have HL : Hid (mixR v.rm a b = (er, v.rm)) := Lib.hid (by rw [HL0.out, if_pos hz])
   have h1 : (er != 0) = true := by simpa using hz
   go_wp2_with fail
   go_ret
   exact retO_no HL.out HI.out.a HBB.out
  subst hz
  rw [if_neg (by simp)] at HL0
  go_wp2_with fail
  refine wp_region_hj [0, 1, 2, 3, 4, 5, 6, 7] [] [8] (fun W => v.In st p W ∧ At W q c.arr 56) mixed (by kernel_rfl) (fun W W' h hb => ⟨h.1.below hb, h.2.below hb⟩) ⟨HI.out.a.below (below_drew _), K_qW8.out.below (below_drew _)⟩ ?_
  iterate 8
   refine canonG_read (v := ?_) rfl (by rfl) ?_ ?_
   rotate_left
   ·intro W hS
    have c2 : W.cell? ⟨p, 2, none⟩ = some (.slice v.A v.bs.length v.ca) := At.cell hS.1.room 2
    rw [HGB.out] at c2
    have cq := hS.2.cell
    go_simp <;> with_reducible rfl
   simp only [List.getElem_toArray, List.getElem_cons_zero, List.getElem_cons_succ, Act.put, List.setIfInBounds_toArray, List.set_cons_succ, List.set_cons_zero]
  refine canonG_nil ?_
  refine tailJ_last (t := 8) (by kernel_rfl) rfl ?_
  intro W11 hb
  have HB11 := Lib.hid (below_trans' HBB.out (undrew hb))
  have HI11 := Lib.hid (HI.out.a.below (undrew hb))
  have HC11 := Lib.hid (C_cW8.out.below (undrew hb))
  clear hb
  have hrob := HI11.out.rb
  rw [HGB.out] at hrob
  have b1 : W11.cell? ⟨gb, i * 3 + 1, none⟩ = some (.slice y1.v.A y1.v.n y1.v.c) := own_cell nb_len (by omega) hrob HB1.out (j := 1) (by omega)
  have b2 : W11.cell? ⟨gb, i * 3 + 1 + 1, none⟩ = some (.slice y1.v.B y1.v.m y1.v.d) := own_cell nb_len (by omega) hrob HB1.out (j := 2) (by omega)
  have fb : ∀ j, W11.frozen? ⟨gb, j, none⟩ = false := fun j => hrob.frozenAt j
  have NCw : Hid (c.New w.heap.size) := Lib.hid (N_c.out.mono HB3.out.size)
  obtain ⟨r1, r2⟩ := bun_end H0.out HI11.out HB11.out HGB.out HB1.out HC11.out NCw.out
  have R1 := Lib.hid r1
  have R2 := Lib.hid r2
  clear hrob r1 r2
  go_wp2_with fail
  refine NoPanic.normal ?_
  clear b1 b2 fb
  generalize (W11.setCell ⟨gb, i * 3 + 1, none⟩ (.slice c.A c.n c.c)).setCell ⟨gb, i * 3 + 1 + 1, none⟩ (.slice c.B c.m c.d) = W12 at R1 R2 ⊢
  obtain ⟨v1, hv1⟩ : ∃ v1 : RV, v1 = { v with bs := v.bs.set i ⟨y1.name, c⟩ } := ⟨_, rfl⟩
  have hl1 : v1.bs.length = v.bs.length := by rw [hv1]; exact List.length_set
  have hA1 : v1.A = some ⟨gb, 0, none⟩ := by rw [hv1]; exact HGB.out
  have hca : v1.ca = v.ca := by rw [hv1]
  have HRM : Hid (v1.rm = v.rm.setH i c.h) := Lib.hid (by rw [hv1]; exact rm_setB v i y1 c HB1.out)
  rw [← hv1] at R1 R2
  clear hv1 hca
  have HL1 := Lib.hid hl1
  clear hl1
  have HA1 := Lib.hid hA1
  have c2 : W12.cell? ⟨p, 2, none⟩ = some (.slice (some ⟨gb, 0, none⟩) v1.bs.length v1.ca) := by rw [← HA1.out]; exact At.cell R1.out.room 2
  have v2 : IntKind.i64.wrap ((k : Int) + 1) = (k : Int) + 1 := IntWalk.i64_in _ (by omega)
  clear hA1
  go_wp2_with fail
  clear c2
  have hrow := R1.out.rb
  rw [HA1.out] at hrow
  with_reducible refine (delete_any 0 gb v1.bs.length v1.ca k v1.bs W12 hrow (by have := HL1.out; omega) (by have := HL1.out; omega)).mono ?_
  rintro _ W13 ⟨rfl, ho, hg⟩
  obtain ⟨r1, r2, r3⟩ := R1.out.delB HA1.out (by have := HL1.out; omega) ho hg
  have hrs := R2.out.step r2 (fun x _ e => by
   rcases e with rfl | rfl
   ·exact .inl rfl
   ·exact .inr (.inr (.inl ⟨_, HA1.out, rfl⟩))) (v2 := { v1 with bs := v1.bs.take k ++ v1.bs.drop (k + 1) }) (fun j hj => .inl hj) (fun j hj => .inl (r3 j hj))
  have HR1 := Lib.hid r1
  have HR2 := Lib.hid hrs
  have kg := kp_of_grown hg
  have hpg : p ≠ gb := fun e => (R1.out.ne_b HA1.out).1 e.symm
  have c2 : W13.cell? ⟨p, 2, none⟩ = some (.slice v1.A v1.bs.length v1.ca) := by
   have := At.cell (R1.out.room.kp kg hpg) 2
   exact this
  have fp : ∀ j, W13.frozen? ⟨p, j, none⟩ = false := (R1.out.room.kp kg hpg).fz
  clear r1 r2 r3 ho hg hrs kg hpg hrow
  go_wp2_with fail
  go_ret
  rw [HL0.out]
  refine ⟨rfl, _, ?_, HR1.out, HR2.out⟩
  have hm : ({ v1 with bs := v1.bs.take k ++ v1.bs.drop (k + 1) } : RV).rm = { v1.rm with bs := v1.rm.bs.eraseIdx k } := by
   show Rm.mk _ _ _ _ _ _ _ = Rm.mk _ _ _ _ _ _ _
   congr 1
   show List.map _ (v1.bs.take k ++ v1.bs.drop (k + 1)) = (v1.bs.map _).eraseIdx k
   rw [List.eraseIdx_eq_take_drop_succ, List.map_append, List.map_take, List.map_drop]
  rw [hm, HRM.out]
end Go.Proofs.YtihhclhpjgeniaaGreatDoor
