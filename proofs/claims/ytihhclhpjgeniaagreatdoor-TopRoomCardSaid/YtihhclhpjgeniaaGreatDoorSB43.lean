/- Merged texts: Ub Uc -/
import Derived.Test.YtihhclhpjgeniaaGreatDoorSB24
import Derived.Test.YtihhclhpjgeniaaGreatDoorSB34
import Derived.Test.YtihhclhpjgeniaaGreatDoorSB41
import Derived.Test.YtihhclhpjgeniaaGreatDoorSB42
namespace Go.Proofs.YtihhclhpjgeniaaGreatDoor
open Go.RowKit Go.Sort Go.Shelf
attribute [local go_sem] Oper.semAt_some
theorem index_no {b : UInt8} {u : List UInt8} (h : b ∉ u) : Lib.index u [b] = -1 := Lib.index_none fun j _ => by
 cases hc : Lib.occAt u [b] j with
 | false => rfl
 | true => exact absurd (List.mem_of_getElem? (occ_byte.1 hc)) h
def itK (a b c : Nat) : Nat → Prop := fun k => k = 1 ∨ k = a ∨ k = b ∨ k = c
structure It (a b c : Nat) (m : Int) (s : List UInt8) (w : World) : Prop where
 a : At w a #[.string ⟨#[10]⟩] 9
 b : At w b #[.string (mkB s)] 9
 c : At w c #[.int .i64 0] 3
 m : w.cell? ⟨1, 0, none⟩ = some (.int .i64 m)
section
variable {a b c : Nat} {m : Int} {s : List UInt8} {w w' : World}
theorem It.same (h : It a b c m s w) (k : ∀ k, itK a b c k → w'.heap[k]? = w.heap[k]?) : It a b c m s w' where
 a := (k a (.inr (.inl rfl))).trans h.a
 b := (k b (.inr (.inr (.inl rfl)))).trans h.b
 c := (k c (.inr (.inr (.inr rfl)))).trans h.c
 m := by rw [← h.m]; unfold World.cell?; rw [k 1 (.inl rfl)]
theorem It.lt (h : It a b c m s w) : ∀ k, itK a b c k → k < w.heap.size := by
 rintro k (rfl | rfl | rfl | rfl)
 ·have h1 := h.m
  unfold World.cell? at h1
  by_cases hk : 1 < w.heap.size
  ·exact hk
  ·rw [Array.getElem?_eq_none (by simpa using hk)] at h1
   cases h1
 ·exact h.a.lt
 ·exact h.b.lt
 ·exact h.c.lt
theorem It.put (h : It a b c m s w) (h1 : a ≠ b) (h2 : c ≠ b) (h3 : 1 ≠ b) (r : List UInt8) : It a b c m r (w.setCell ⟨b, 0, none⟩ (.string (mkB r))) where
 a := h.a.far (p := ⟨b, 0, none⟩) h1 _
 b := h.b.set 0 (.string (mkB r))
 c := h.c.far (p := ⟨b, 0, none⟩) h2 _
 m := by rw [← h.m]; unfold World.cell?; rw [setCell_other h3]
end
def lenC (b : Nat) (w : World) : Nat := match w.cell? ⟨b, 0, none⟩ with
 | some (.string t) => t.size
 | _ => 0
theorem lenC_of {b : Nat} {w : World} {s : List UInt8} (h : At w b #[.string (mkB s)] 9) : lenC b w = s.length := by
 unfold lenC
 rw [show w.cell? ⟨b, 0, none⟩ = some (.string (mkB s)) from h.cell 0]
 rfl
theorem cut_l (u r : List UInt8) : (mkB (u ++ 10 :: r)).extract 0 u.length = mkB u := by
 apply ByteArray.ext
 simp [mkB]
theorem cut_r (u r : List UInt8) : (mkB (u ++ 10 :: r)).extract (u.length + 1) (u ++ 10 :: r).length = mkB r := by
 apply ByteArray.ext
 simp [mkB]
 exact List.take_of_length_le (by omega)
set_option maxRecDepth 100000 in
set_option maxHeartbeats 1000000 in
theorem seq_any (a b c : Nat) (m : Int) (s : List UInt8) (n : Nat) (w : World) (h1 : a ≠ b) (h2 : c ≠ b) (h3 : 1 ≠ b) (hi : It a b c m s w) (hs : s.length ≤ 1000000) :
  SeqB Fence.wide n Tryz.prog (fun k => k = b) (itK a b c) 193 #[.pointer (some ⟨a, 0, none⟩), .pointer (some ⟨b, 0, none⟩), .pointer (some ⟨c, 0, none⟩)] (fun x : List UInt8 => #[.string (mkB x)]) (pcs 10 s) w := by
 intro l J Jx W hW hJ _ hY h0
 have hI : It a b c m s W := hi.same fun k hk => hW.block k (hi.lt k hk)
 have ca : W.cell? ⟨a, 0, none⟩ = some (.string ⟨#[10]⟩) := hI.a.cell 0
 have HY := Lib.hid hY
 have HJ := Lib.hid hJ
 have HI := Lib.hid hI
 clear hW hJ hY hi hI
 refine callsIn_of_wp Tryz.func193 rfl trivial ?_ rfl
 simp only [Tryz.ntmps193, List.size_toArray, List.length_cons, List.length_nil, Nat.reduceAdd, Nat.reduceSub, Array.replicate_succ, Array.replicate_zero, List.push_toArray, List.append_toArray, List.nil_append, List.cons_append]
 gi_wp2
 gi_loopw [7] (fun _ wr => ∃ pre r, pcs 10 s = pre ++ pcs 10 r ∧ J pre wr ∧ It a b c m r wr ∧ r.length ≤ 1000000) (fun _ wr => lenC b wr)
 case atStart => exact ⟨[], s, rfl, h0, HI.out, hs⟩
 case round =>
  obtain ⟨pre, r, hx, hj, hit, hr⟩ := hrel
  have ca : wr.cell? ⟨a, 0, none⟩ = some (.string ⟨#[10]⟩) := hit.a.cell 0
  have cb : wr.cell? ⟨b, 0, none⟩ = some (.string (mkB r)) := hit.b.cell 0
  have cc : wr.cell? ⟨c, 0, none⟩ = some (.int .i64 0) := hit.c.cell 0
  have hln := lenC_of hit.b
  have hix := Tryz.strings_Index (mkB r) ⟨#[10]⟩ m wr (by rw [size_mk]; omega) hit.m
  have HT := Lib.hid hit
  clear hit
  by_cases hm : (10 : UInt8) ∈ r
  ·obtain ⟨u, r', rfl, hu⟩ := List.eq_append_cons_of_mem hm
   have e1 := cut_l u r'
   have e2 := cut_r u r'
   have hp : pcs 10 (u ++ 10 :: r') = u :: pcs 10 r' := pcs_hit hu
   have hlen : (u ++ 10 :: r').length = u.length + 1 + r'.length := by simp; omega
   rw [show Lib.index (mkB (u ++ 10 :: r')).data.toList (⟨#[10]⟩ : ByteArray).data.toList = (u.length : Int) from index_byte hu] at hix
   rw [hlen] at e2 hr hln
   obtain ⟨fn, tmps, assign, body, hy, hR⟩ := HY.out pre u (pcs 10 r') wr hj (by rw [hx, hp])
   have HX : Hid (pcs 10 s = (pre ++ [u]) ++ pcs 10 r') := Lib.hid (by rw [hx, hp]; simp)
   have HR := Lib.hid hR
   have HLN := Lib.hid hln
   obtain ⟨N, hN⟩ : ∃ N, u.length = N := ⟨_, rfl⟩
   have hN0 : ¬ ((N : Int) < 0) := by omega
   have v0 : IntKind.i64.wrap (N : Int) = (N : Int) := IntWalk.i64_in _ (by omega)
   have v1 : IntKind.i64.wrap ((N : Int) + 1) = ((N + 1 : Nat) : Int) := by rw [IntWalk.i64_in _ (by omega)]; push_cast; rfl
   have hsz : (mkB (u ++ 10 :: r')).size = N + 1 + r'.length := by rw [size_mk, hlen, hN]
   rw [hN] at e1 e2 hix
   generalize mkB (u ++ 10 :: r') = t at ca cb cc hix e1 e2 hsz
   have HIX := Lib.hid hix
   clear hx hp hu hm hj hR hix hlen hln
   gi_wp2_with fail
   refine ⟨trivial, fun h => (by cases h), ?_⟩
   refine (callsIn_wide.2 HIX.out).mono ?_
   rintro e w' ⟨rfl, rfl⟩
   gi_wp2_with fail
   refine ⟨fun h => (by cases h), ?_⟩
   refine HR.out.mono ?_
   rintro e W3 (⟨rfl, hJ3, hk3, hz3⟩ | ⟨rfl, hJx3⟩)
   ·have HT3 := Lib.hid (HT.out.same hk3)
    have cb3 : W3.cell? ⟨b, 0, none⟩ = some (.string t) := by rw [← cb]; unfold World.cell?; rw [hk3 b (.inr (.inr (.inl rfl)))]
    have ca3 : W3.cell? ⟨a, 0, none⟩ = some (.string ⟨#[10]⟩) := HT3.out.a.cell 0
    have fb3 : W3.frozen? ⟨b, 0, none⟩ = false := HT3.out.b.fz 0
    gi_wp2_with fail
    have hp := HT3.out.put h1 h2 h3 r'
    have hlc := lenC_of hp.b
    have hj4 : J (pre ++ [u]) (W3.setCell ⟨b, 0, none⟩ (.string (mkB r'))) := HJ.out _ _ _ hJ3 ((Kp.refl (fun k => k = b) W3).set (p := ⟨b, 0, none⟩) (fun _ => rfl) _)
    refine ⟨⟨pre ++ [u], r', HX.out, hj4, hp, by omega⟩, ?_⟩
    rw [hlc, HLN.out]
    omega
   ·gi_wp2_with fail
    refine bodyPost_ret (results_none rfl _ _ _) rfl ?_
    exact ⟨⟨_, rfl⟩, .inr ⟨_, hJx3⟩⟩
  ·rw [show Lib.index (mkB r).data.toList (⟨#[10]⟩ : ByteArray).data.toList = -1 from index_no hm] at hix
   have hp : pcs 10 r = [r] := pcs_one hm
   obtain ⟨fn, tmps, assign, body, hy, hR⟩ := HY.out pre r [] wr hj (by rw [hx, hp])
   have HX : Hid (pcs 10 s = pre ++ [r]) := Lib.hid (by rw [hx, hp])
   have HR := Lib.hid hR
   have HIX := Lib.hid hix
   clear hx hp hm hj hR hix hln
   gi_wp2_with fail
   refine ⟨trivial, fun h => (by cases h), ?_⟩
   refine (callsIn_wide.2 HIX.out).mono ?_
   rintro e w' ⟨rfl, rfl⟩
   gi_wp2_with fail
   refine ⟨fun h => (by cases h), ?_⟩
   refine HR.out.mono ?_
   rintro e W3 (⟨rfl, hJ3, _, _⟩ | ⟨rfl, hJx3⟩)
   ·gi_wp2_with fail
    go_end0
    exact ⟨⟨_, rfl⟩, .inl (by rw [HX.out]; exact hJ3)⟩
   ·gi_wp2_with fail
    go_end0
    exact ⟨⟨_, rfl⟩, .inr ⟨_, hJx3⟩⟩
end Go.Proofs.YtihhclhpjgeniaaGreatDoor
namespace Go.Proofs.YtihhclhpjgeniaaGreatDoor
open Go.RowKit Go.Sort Go.Shelf
attribute [local go_sem] Oper.semAt_some
def replayT (s : List UInt8) : Option Rm × Nat × Int :=
 if s = [] then (some rm0, 0, 0) else if Lib.hasSuffix s [10] = true then repR (pcs 10 (s.take (s.length - 1))) rm0 0 else (none, 0, 3)
def RetPl (x : Option Rm × Nat × Int) (w : World) (r : Ending) (w' : World) : Prop :=
 Below w.heap.size w w' ∧ match x with
 | (none, n, e) => r = .returned (.tuple #[.pointer none, .int .i64 n, .int .i64 e])
 | (some q, n, e) => ∃ (v : RV) (p : Nat), r = .returned (.tuple #[.pointer (some ⟨p, 0, none⟩), .int .i64 n, .int .i64 e]) ∧ v.rm = q ∧ v.In 0 p w' ∧ ∀ k, v.F p k ∨ v.C k → w.heap.size ≤ k
set_option maxRecDepth 100000 in
theorem seqS_any (s : List UInt8) (w : World) : Calls Tryz.prog 131 #[.string (mkB s), .string ⟨#[10]⟩, .int .i64 0] w fun r w' => r = .returned (.func (.func 193) #[] #[.pointer (some ⟨w.heap.size + 1, 0, none⟩), .pointer (some ⟨w.heap.size, 0, none⟩), .pointer (some ⟨w.heap.size + 2, 0, none⟩)]) ∧
  w' = ((w.alloc (.cells #[.string (mkB s)] 9)).alloc (.cells #[.string ⟨#[10]⟩] 9)).alloc (.cells #[.int .i64 0] 3) := by
 have hmf : ∀ (fn : Fn) (first cap : Array Value) (w : World), (Instr.makeFunc fn first cap).run Tryz.prog w = .ok (.func fn first cap) w := fun _ _ _ _ => rfl
 go_enter Tryz.func131, Tryz.ntmps131
 go_wp2_with fail
 go_ret
 exact ⟨rfl, rfl⟩
set_option maxRecDepth 100000 in
theorem seqN_any (s : List UInt8) (w : World) : Calls Tryz.prog 78 #[.string (mkB s), .string ⟨#[10]⟩] w fun r w' => r = .returned (.func (.func 193) #[] #[.pointer (some ⟨w.heap.size + 1, 0, none⟩), .pointer (some ⟨w.heap.size, 0, none⟩), .pointer (some ⟨w.heap.size + 2, 0, none⟩)]) ∧
  w' = ((w.alloc (.cells #[.string (mkB s)] 9)).alloc (.cells #[.string ⟨#[10]⟩] 9)).alloc (.cells #[.int .i64 0] 3) := by
 go_enter Tryz.func78, Tryz.ntmps78
 go_wp2_with fail
 with_reducible refine (seqS_any s w).mono ?_
 rintro _ w1 ⟨rfl, h⟩
 have H := Lib.hid h
 clear h
 go_wp2_with fail
 go_ret
 exact ⟨rfl, H.out⟩
theorem ret3c {fn : Func} {tmps : Array Value} {w : World} {q : Nat} {u x y : Value} (h : fn.results = #[.cell 2 25, .cell 3 3, .cell 4 29]) (p2 : tmps.getD 2 undef = .pointer (some ⟨q, 0, none⟩)) (p3 : tmps.getD 3 undef = .pointer (some ⟨q + 1, 0, none⟩)) (p4 : tmps.getD 4 undef = .pointer (some ⟨q + 1 + 1, 0, none⟩))
  (c2 : At w q #[u] 25) (c3 : At w (q + 1) #[x] 3) (c4 : At w (q + 1 + 1) #[y] 29) : (results fn tmps).run Tryz.prog w = .ok (.tuple #[u, x, y]) w := by
 have d2 : w.cell? ⟨q, 0, none⟩ = some u := c2.cell 0
 have d3 : w.cell? ⟨q + 1, 0, none⟩ = some x := c3.cell 0
 have d4 : w.cell? ⟨q + 1 + 1, 0, none⟩ = some y := c4.cell 0
 have p2' : tmps[2]?.getD undef = .pointer (some ⟨q, 0, none⟩) := by simpa using p2
 have p3' : tmps[3]?.getD undef = .pointer (some ⟨q + 1, 0, none⟩) := by simpa using p3
 have p4' : tmps[4]?.getD undef = .pointer (some ⟨q + 1 + 1, 0, none⟩) := by simpa using p4
 simp only [results, h]
 simp [Sem.run_bind, Result.andThen, p2', p3', p4', asAddr, go_sem, d2, d3, d4]
structure Res (q : Nat) (u : Option Addr) (n e : Int) (W : World) : Prop where
 u : At W q #[.pointer u] 25
 n : At W (q + 1) #[.int .i64 n] 3
 e : At W (q + 1 + 1) #[.int .i64 e] 29
theorem Res.kp {S : Nat → Prop} {q : Nat} {u : Option Addr} {n e : Int} {W W' : World} (h : Res q u n e W) (k : Kp S W W') (h0 : ¬ S q) (h1 : ¬ S (q + 1)) (h2 : ¬ S (q + 1 + 1)) : Res q u n e W' := ⟨h.u.kp k h0, h.n.kp k h1, h.e.kp k h2⟩
theorem Res.below {q : Nat} {u : Option Addr} {n e : Int} {W W' : World} (h : Res q u n e W) (hb : Below W.heap.size W W') : Res q u n e W' := ⟨h.u.below hb, h.n.below hb, h.e.below hb⟩
section
variable {q : Nat} {u : Option Addr} {n e : Int} {W : World}
theorem Res.su (h : Res q u n e W) (x : Option Addr) : Res q x n e (W.setCell ⟨q, 0, none⟩ (.pointer x)) := ⟨h.u.set 0 _, h.n.far (p := ⟨q, 0, none⟩) (by show q + 1 ≠ q; omega) _, h.e.far (p := ⟨q, 0, none⟩) (by show q + 1 + 1 ≠ q; omega) _⟩
theorem Res.sn (h : Res q u n e W) (x : Int) : Res q u x e (W.setCell ⟨q + 1, 0, none⟩ (.int .i64 x)) := ⟨h.u.far (p := ⟨q + 1, 0, none⟩) (by show q ≠ q + 1; omega) _, h.n.set 0 _, h.e.far (p := ⟨q + 1, 0, none⟩) (by show q + 1 + 1 ≠ q + 1; omega) _⟩
theorem Res.se (h : Res q u n e W) (x : Int) : Res q u n x (W.setCell ⟨q + 1 + 1, 0, none⟩ (.int .i64 x)) := ⟨h.u.far (p := ⟨q + 1 + 1, 0, none⟩) (by show q ≠ q + 1 + 1; omega) _, h.n.far (p := ⟨q + 1 + 1, 0, none⟩) (by show q + 1 ≠ q + 1 + 1; omega) _, h.e.set 0 _⟩
end
theorem res_end {q : Nat} {u : Option Addr} {n e : Int} {W : World} {tmps : Array Value} {R : Ending → World → Prop} (h : Res q u n e W) (p2 : tmps.getD 2 undef = .pointer (some ⟨q, 0, none⟩)) (p3 : tmps.getD 3 undef = .pointer (some ⟨q + 1, 0, none⟩)) (p4 : tmps.getD 4 undef = .pointer (some ⟨q + 1 + 1, 0, none⟩))
  (hR : R (.returned (.tuple #[.pointer u, .int .i64 n, .int .i64 e])) W) : bodyPostM Fence.wide 10 Tryz.prog Tryz.f42 R Exit.ret { tmps := tmps, defers := [] } W :=
 ⟨_, ret3c rfl p2 p3 p4 h.u h.n h.e, hR⟩
theorem res_endD {q D : Nat} {u : Option Addr} {n e : Int} {W : World} {tmps : Array Value} {R : Ending → World → Prop} (h : Res q u n e W) (p2 : tmps.getD 2 undef = .pointer (some ⟨q, 0, none⟩)) (p3 : tmps.getD 3 undef = .pointer (some ⟨q + 1, 0, none⟩)) (p4 : tmps.getD 4 undef = .pointer (some ⟨q + 1 + 1, 0, none⟩))
  (hD : W.heap[D]? = some (.deferred (some []))) (h1 : q + 3 ≤ D) (hR : R (.returned (.tuple #[.pointer u, .int .i64 n, .int .i64 e])) (W.putObj D (.deferred none))) :
  bodyPostM Fence.wide 10 Tryz.prog Tryz.f42 R Exit.ret { tmps := tmps, defers := [{ target := .collected D, args := #[] }] } W := by
 have h' := h.kp (Kp.obj (S := fun k => k = D) rfl (.deferred none)) (by omega) (by omega) (by omega)
 exact ⟨by simp, .inl ⟨_, _, rfl, run_takeDeferred hD, ⟨_, ret3c rfl p2 p3 p4 h'.u h'.n h'.e, hR⟩⟩⟩
theorem kq {q : Nat} {A B : World} (h : Kp (fun k => k = q ∨ k = q + 1 ∨ k = q + 1 + 1) A B) {i : Nat} (hi : i = q ∨ i = q + 1 ∨ i = q + 1 + 1) (u : Value) : Kp (fun k => k = q ∨ k = q + 1 ∨ k = q + 1 + 1) A (B.setCell ⟨i, 0, none⟩ u) := h.set (p := ⟨i, 0, none⟩) (fun _ => hi) u
theorem kd {S : Nat → Prop} (A : World) : Kp S A A.drew := ⟨rfl, rfl, rfl, Nat.le_refl _, fun _ _ _ => rfl⟩
theorem pcs_count (b : UInt8) : ∀ s : List UInt8, (pcs b s).length ≤ s.length + 1
 | [] => by simp [pcs]
 | c :: s => by
  have ih := pcs_count b s
  by_cases hc : c = b
  ·subst hc
   rw [pcs_same]
   simp only [List.length_cons]
   omega
  ·cases hp : pcs b s with
   | nil => exact absurd hp (pcs_ne b s)
   | cons w l =>
    rw [pcs_other hc hp]
    rw [hp] at ih
    simp only [List.length_cons] at ih ⊢
    omega
def Sc (p z : Nat) (n : Int) (A : World) : Prop := A.cell? ⟨z, 0, none⟩ = some (.pointer (some ⟨p, 0, none⟩)) ∧ A.cell? ⟨z + 1, 0, none⟩ = some (.int .i64 n) ∧ z + 2 ≤ A.heap.size
theorem Sc.below {p z : Nat} {n : Int} {A B : World} (h : Sc p z n A) (hb : Below A.heap.size A B) : Sc p z n B :=
 ⟨(hb.cell (by show z < _; have := h.2.2; omega)).trans h.1, (hb.cell (by show z + 1 < _; have := h.2.2; omega)).trans h.2.1, Nat.le_trans h.2.2 hb.size⟩
theorem Sc.set {p z i : Nat} {n : Int} {A : World} (h : Sc p z n A) (hi : i < z) (u : Value) : Sc p z n (A.setCell ⟨i, 0, none⟩ u) := by
 refine ⟨?_, ?_, by rw [size_set]; exact h.2.2⟩
 ·rw [← h.1]; unfold World.cell?; rw [setCell_other (by show z ≠ i; omega)]
 ·rw [← h.2.1]; unfold World.cell?; rw [setCell_other (by show z + 1 ≠ i; omega)]
theorem Gl.kp {S : Nat → Prop} {m : Int} {W W' : World} (h : Gl m W) (k : Kp S W W') (hS : ∀ x, x < 8 → ¬ S x) : Gl m W' := h.b8 (below_kp (Below.refl 8 W) k h.g hS)
structure Rq (q R N : Nat) (m : Int) (B : Nat) (xs : List (List UInt8)) (pre : List (List UInt8)) (v : RV) (p : Nat) (w W : World) : Prop where
 res : Res q none 0 0 W
 r : At W R #[.pointer (some ⟨p, 0, none⟩)] 25
 n : At W N #[.int .i64 pre.length] 3
 i : v.In 0 p W
 g : v.rm.Good
 gl : Gl m W
 b : Below w.heap.size w W
 s : ∀ k, v.F p k ∨ v.C k → (q + 3 ≤ k ∧ k < R) ∨ B < k
 x : ∀ rest, xs = pre ++ rest → repR xs rm0 0 = repR rest v.rm pre.length
section
variable {q R N B p : Nat} {m : Int} {xs pre : List (List UInt8)} {v : RV} {w W W' : World}
theorem Rq.kp {S : Nat → Prop} {y : Nat} (h : Rq q R N m B xs pre v p w W) (k : Kp S W W') (hS : ∀ k, S k → y ≤ k ∧ k ≤ B) (hy : q + 2 < y ∧ R < y ∧ N < y ∧ 8 ≤ y ∧ w.heap.size ≤ y) (hw : w.heap.size ≤ W.heap.size) : Rq q R N m B xs pre v p w W' where
 res := h.res.kp k (fun e => by have := hS _ e; omega) (fun e => by have := hS _ e; omega) (fun e => by have := hS _ e; omega)
 r := h.r.kp k (fun e => by have := hS _ e; omega)
 n := h.n.kp k (fun e => by have := hS _ e; omega)
 i := h.i.kp k (fun b hb e => by have := h.s b hb; have := hS _ e; omega)
 g := h.g
 gl := h.gl.kp k (fun x hx e => by have := hS _ e; omega)
 b := below_kp h.b k hw (fun x hx e => by have := hS _ e; omega)
 s := h.s
 x := h.x
end
set_option maxRecDepth 100000 in
set_option maxHeartbeats 2000000 in
theorem replay_any (s : List UInt8) (m : Int) (w : World) (hs : s.length ≤ 1000000) (hgl : Gl m w) : Calls Tryz.prog 42 #[.string (mkB s)] w (RetPl (replayT s) w) := by
 obtain ⟨q, hq⟩ : ∃ q, w.heap.size = q := ⟨_, rfl⟩
 have HQ := Lib.hid hq
 have hr0 : Res w.heap.size none 0 0 (((w.alloc (.cells #[.pointer none] 25)).alloc (.cells #[.int .i64 0] 3)).alloc (.cells #[.int .i64 0] 29)) := by
  have a1 := At.new w #[.pointer none] 25
  have a2 := At.new (w.alloc (.cells #[.pointer none] 25)) #[.int .i64 0] 3
  have a3 := At.new ((w.alloc (.cells #[.pointer none] 25)).alloc (.cells #[.int .i64 0] 3)) #[.int .i64 0] 29
  rw [World.size_alloc] at a2 a3
  rw [World.size_alloc] at a3
  exact ⟨(a1.below (belowA _ _)).below (belowA _ _), a2.below (belowA _ _), a3⟩
 have hb0 : Below w.heap.size w (((w.alloc (.cells #[.pointer none] 25)).alloc (.cells #[.int .i64 0] 3)).alloc (.cells #[.int .i64 0] 29)) := below_trans' (below_trans' (belowA _ _) (belowA _ _)) (belowA _ _)
 have hz0 : (((w.alloc (.cells #[.pointer none] 25)).alloc (.cells #[.int .i64 0] 3)).alloc (.cells #[.int .i64 0] 29)).heap.size = w.heap.size + 3 := by simp
 have R0 := Lib.hid hr0
 have B0 := Lib.hid hb0
 have Z0 := Lib.hid hz0
 have G0 := Lib.hid (hgl.below hb0)
 clear hr0 hb0 hz0 hgl
 have hsz : (mkB s).size ≤ 9223372036854775807 := by rw [size_mk]; omega
 refine (callsIn_wide (n := 10)).1 ?_
 refine callsIn_of_wp_marks Tryz.func42 rfl trivial ?_ rfl
 refine wpIn_wide.2 ?_
 simp only [Tryz.ntmps42, List.size_toArray, List.length_cons, List.length_nil, Nat.reduceAdd, Nat.reduceSub, Array.replicate_succ, Array.replicate_zero, List.push_toArray, List.append_toArray, List.nil_append, List.cons_append]
 go_wp2_with fail
 generalize ((w.alloc (.cells #[.pointer none] 25)).alloc (.cells #[.int .i64 0] 3)).alloc (.cells #[.int .i64 0] 29) = w0 at R0 B0 Z0 G0 ⊢
 refine (Tryz.strings_CutSuffix (mkB s) ⟨#[10]⟩ w0 hsz).mono ?_
 rintro _ w1 ⟨rfl, rfl⟩
 rw [HQ.out] at R0 B0 Z0
 rw [show Lib.hasSuffix (mkB s).data.toList (⟨#[10]⟩ : ByteArray).data.toList = Lib.hasSuffix s [10] from rfl, show Lib.trimSuffix (mkB s).data.toList (⟨#[10]⟩ : ByteArray).data.toList = Lib.trimSuffix s [10] from rfl]
 have q0 := R0.out.u.fz 0
 have q1 := R0.out.n.fz 0
 have q2 := R0.out.e.fz 0
 have r0 := R0.out.u.cell 0
 have r1 := R0.out.n.cell 0
 have r2 := R0.out.e.cell 0
 by_cases hne : s = []
 ·subst hne
  have hsf : Lib.hasSuffix [] [10] = false := rfl
  have htr : Lib.trimSuffix [] [10] = [] := rfl
  rw [hsf, htr]
  have RS : Hid (replayT [] = (some rm0, 0, 0)) := Lib.hid rfl
  clear hsf htr hq
  go_wp2_with fail
  with_reducible refine (new_any w1 G0.out.g).mono ?_
  rintro _ w2 ⟨v, p, rfl, hrm, hi, hF, hb⟩
  have hq1 : q ≤ w1.heap.size := by rw [Z0.out]; omega
  have k1 := belowA w2 (.cells #[.pointer (some ⟨p, 0, none⟩)] 25)
  have R2 := Lib.hid ((R0.out.below hb).below k1)
  have I2 := Lib.hid (hi.below k1)
  have B2 := Lib.hid ((B0.out.trans (hb.mono hq1)).trans (k1.mono (Nat.le_trans hq1 hb.size)))
  have hq2 : q ≤ (w2.alloc (.cells #[.pointer (some ⟨p, 0, none⟩)] 25)).heap.size := Nat.le_trans (Nat.le_trans hq1 hb.size) k1.size
  have F2 := Lib.hid hF
  have M2 := Lib.hid hrm
  clear hi hF hrm hb k1 q0 q1 q2 r0 r1 r2
  have q0 := R2.out.u.fz 0
  have q1 := R2.out.n.fz 0
  have q2 := R2.out.e.fz 0
  have r0 := R2.out.u.cell 0
  have r1 := R2.out.n.cell 0
  have r2 := R2.out.e.cell 0
  go_wp2_with fail
  have hz := Z0.out
  have hn : ∀ k, v.F p k ∨ v.C k → ¬ (k = q ∨ k = q + 1 ∨ k = q + 1 + 1) := fun k hk => by have := F2.out k hk; omega
  refine res_end (((R2.out.su (some ⟨p, 0, none⟩)).sn 0).se 0) rfl rfl rfl ?_
  have kk := ((((Kp.refl (fun k => k = q ∨ k = q + 1 ∨ k = q + 1 + 1) (w2.alloc (.cells #[.pointer (some ⟨p, 0, none⟩)] 25))).set (p := ⟨q, 0, none⟩) (fun _ => .inl rfl) (.pointer (some ⟨p, 0, none⟩))).set (p := ⟨q + 1, 0, none⟩) (fun _ => .inr (.inl rfl)) (.int .i64 0)).set (p := ⟨q + 1 + 1, 0, none⟩) (fun _ => .inr (.inr rfl)) (.int .i64 0))
  refine ⟨?_, ?_⟩
  ·rw [HQ.out]
   exact below_kp B2.out kk hq2 (fun x hx => by omega)
  ·rw [RS.out]
   exact ⟨v, p, rfl, M2.out, I2.out.kp kk hn, fun k hk => by have := F2.out k hk; have := HQ.out; omega⟩
 have hem : s.isEmpty = false := by cases s with
  | nil => exact absurd rfl hne
  | cons a l => rfl
 cases hsf : Lib.hasSuffix s [10] with
 | false =>
  have RS : Hid (replayT s = (none, 0, 3)) := Lib.hid (by unfold replayT; rw [if_neg hne, if_neg (by rw [hsf]; simp)])
  clear hne hsf hq
  go_wp2_with fail
  refine res_end (((R0.out.su none).sn 0).se 3) rfl rfl rfl ?_
  have kk := ((((Kp.refl (fun k => k = q ∨ k = q + 1 ∨ k = q + 1 + 1) w1).set (p := ⟨q, 0, none⟩) (fun _ => .inl rfl) (.pointer none)).set (p := ⟨q + 1, 0, none⟩) (fun _ => .inr (.inl rfl)) (.int .i64 0)).set (p := ⟨q + 1 + 1, 0, none⟩) (fun _ => .inr (.inr rfl)) (.int .i64 3))
  refine ⟨?_, ?_⟩
  ·rw [HQ.out]
   exact below_kp B0.out kk (by rw [Z0.out]; omega) (fun x hx => by omega)
  ·rw [RS.out]
   rfl
 | true =>
  obtain ⟨t, ht⟩ : ∃ t, Lib.trimSuffix s [10] = t := ⟨_, rfl⟩
  have htl : t.length ≤ 1000000 := by
   rw [← ht]; unfold Lib.trimSuffix; rw [if_pos hsf, List.length_take]; omega
  have RS : Hid (replayT s = repR (pcs 10 t) rm0 0) := Lib.hid (by
   unfold replayT
   rw [if_neg hne, if_pos hsf, ← ht]
   unfold Lib.trimSuffix
   rw [if_pos hsf]
   rfl)
  rw [ht]
  rw [show (⟨t.toArray⟩ : ByteArray) = mkB t from rfl]
  clear hne hsf hq ht hs hsz
  go_wp2_with fail
  with_reducible refine (new_any w1 G0.out.g).mono ?_
  rintro _ w2 ⟨v, p, rfl, hrm, hi, hF, hb⟩
  have hq1 : q ≤ w1.heap.size := by rw [Z0.out]; omega
  obtain ⟨z, hz⟩ : ∃ z, w2.heap.size = z := ⟨_, rfl⟩
  have a1 := At.new w2 #[.pointer (some ⟨p, 0, none⟩)] 25
  have a2 := At.new (w2.alloc (.cells #[.pointer (some ⟨p, 0, none⟩)] 25)) #[.int .i64 0] 3
  have k1 := belowA w2 (.cells #[.pointer (some ⟨p, 0, none⟩)] 25)
  have k2 := belowA (w2.alloc (.cells #[.pointer (some ⟨p, 0, none⟩)] 25)) (.cells #[.int .i64 0] 3)
  have hzz : ((w2.alloc (.cells #[.pointer (some ⟨p, 0, none⟩)] 25)).alloc (.cells #[.int .i64 0] 3)).heap.size = z + 2 := by simp [hz]
  rw [World.size_alloc, hz] at a2
  rw [hz] at a1
  have A1 := Lib.hid (a1.below k2)
  have A2 := Lib.hid a2
  have HZZ := Lib.hid hzz
  have k3 := below_trans' k1 k2
  have R2 := Lib.hid ((R0.out.below hb).below k3)
  have I2 := Lib.hid (hi.below k3)
  have B2 := Lib.hid ((B0.out.trans (hb.mono hq1)).trans (k3.mono (Nat.le_trans hq1 hb.size)))
  have G2 := Lib.hid ((G0.out.below hb).below k3)
  have L2 : Hid (∀ k, v.F p k ∨ v.C k → q + 3 ≤ k ∧ k < z) := Lib.hid (fun k hk => by have := hF k hk; have := hi.lt hk; have := Z0.out; omega)
  have M2 := Lib.hid hrm
  have Y2 : Hid (q + 3 ≤ z ∧ 8 ≤ z) := Lib.hid (by have := Z0.out; have := hb.size; have := G0.out.g; omega)
  clear hi hF hrm hb k1 k2 k3 a1 a2 hzz q0 q1 q2 r0 r1 r2 hq1 R0 B0 Z0 G0
  go_wp2_with fail
  clear hz
  generalize (w2.alloc (.cells #[.pointer (some ⟨p, 0, none⟩)] 25)).alloc (.cells #[.int .i64 0] 3) = w3 at A1 A2 HZZ R2 I2 B2 G2 ⊢
  with_reducible refine (seqN_any t w3).mono ?_
  rintro _ w4 ⟨rfl, hw4⟩
  rw [HZZ.out]
  have b1 := At.new w3 #[.string (mkB t)] 9
  have b2 := At.new (w3.alloc (.cells #[.string (mkB t)] 9)) #[.string ⟨#[10]⟩] 9
  have b3 := At.new ((w3.alloc (.cells #[.string (mkB t)] 9)).alloc (.cells #[.string ⟨#[10]⟩] 9)) #[.int .i64 0] 3
  have k1 := belowA w3 (.cells #[.string (mkB t)] 9)
  have k2 := belowA (w3.alloc (.cells #[.string (mkB t)] 9)) (.cells #[.string ⟨#[10]⟩] 9)
  have k3 := belowA ((w3.alloc (.cells #[.string (mkB t)] 9)).alloc (.cells #[.string ⟨#[10]⟩] 9)) (.cells #[.int .i64 0] 3)
  have hz4 : (((w3.alloc (.cells #[.string (mkB t)] 9)).alloc (.cells #[.string ⟨#[10]⟩] 9)).alloc (.cells #[.int .i64 0] 3)).heap.size = z + 5 := by simp [HZZ.out]
  rw [World.size_alloc] at b2 b3
  rw [World.size_alloc] at b3
  rw [HZZ.out] at b1 b2 b3
  rw [← hw4] at b3 k3 hz4
  have k4 : Below w3.heap.size w3 w4 := below_trans' (below_trans' k1 k2) k3
  have IT : Hid (It (z + 2 + 1) (z + 2) (z + 2 + 2) m t w4) := Lib.hid ⟨b2.below k3, (b1.below k2).below k3, b3, (G2.out.below k4).m⟩
  have R4 := Lib.hid (R2.out.below k4)
  have I4 := Lib.hid (I2.out.below k4)
  have A14 := Lib.hid (A1.out.below k4)
  have A24 := Lib.hid (A2.out.below k4)
  have B4 := Lib.hid (B2.out.trans (k4.mono (by have := HZZ.out; have := Y2.out; omega)))
  have G4 := Lib.hid (G2.out.below k4)
  have Z4 := Lib.hid hz4
  clear b1 b2 b3 k1 k2 k3 k4 hz4 hw4 A1 A2 HZZ R2 I2 B2 G2
  go_wp2_with fail
  refine (wpIn_wide (n := 10)).1 ?_
  have hD : w4.heap.size = z + 5 := Z4.out
  have hSy : ∀ k, (k = z + 2 ∨ k = w4.heap.size ∨ k = w4.heap.size + 1) → z + 2 ≤ k ∧ k ≤ z + 6 := fun k hk => by omega
  have hYy : q + 2 < z + 2 ∧ z < z + 2 ∧ z + 1 < z + 2 ∧ 8 ≤ z + 2 ∧ w.heap.size ≤ z + 2 := by have := Y2.out; have := HQ.out; omega
  refine wpIn_rangeB (S := fun k => k = z + 2) (K := itK (z + 2 + 1) (z + 2) (z + 2 + 2)) (xs := pcs 10 t) rfl (by omega) (gf := 193) (lb := #[.pointer (some ⟨z + 2 + 1, 0, none⟩), .pointer (some ⟨z + 2, 0, none⟩), .pointer (some ⟨z + 2 + 2, 0, none⟩)]) rfl trivial (enters_of Tryz.func193 (by kernel_rfl) rfl)
   (fun k hk => hk.elim (fun e => by omega) (IT.out.lt k)) (seq_any (z + 2 + 1) (z + 2) (z + 2 + 2) m t (10 - 1) w4 (by omega) (by omega) (by have := Y2.out; omega) IT.out htl) (fun _ => rfl)
   (fun pre W => (∃ v, Rq q z (z + 1) m (z + 6) (pcs 10 t) pre v p w W) ∧ q ≤ W.heap.size)
   (fun _ W => ∃ (n : Nat) (e : Int), repR (pcs 10 t) rm0 0 = (none, n, e) ∧ Res q none n e W ∧ Below q w W ∧ z + 7 ≤ W.heap.size)
   ?hI ?hIx ?h0 ?a1 ?assign ?body ?done ?stop
  case hI =>
   rintro pre A B ⟨⟨v, h⟩, hA⟩ k
   exact ⟨⟨v, h.kp k hSy hYy (by rw [HQ.out]; exact hA)⟩, Nat.le_trans hA k.size⟩
  case hIx =>
   rintro pre A B ⟨n, e, h1, h2, h3, h4⟩ k
   exact ⟨n, e, h1, h2.kp k (fun e => by have := hSy _ e; omega) (fun e => by have := hSy _ e; omega) (fun e => by have := hSy _ e; omega), below_kp h3 k (by omega) (fun x hx e => by have := hSy _ e; omega), Nat.le_trans h4 k.size⟩
  case h0 =>
   refine ⟨⟨v, R4.out, A14.out, A24.out, I4.out, by rw [M2.out]; exact rm0_good, G4.out, by rw [HQ.out]; exact B4.out, fun k hk => .inl (L2.out k hk), fun rest hr => ?_⟩, by rw [Z4.out]; have := Y2.out; omega⟩
   rw [M2.out, hr]; rfl
  case assign =>
   intro l x W K hK
   gi_wp2_with fail
   exact hK
  case body =>
   rintro l pre x rest W hxs ⟨⟨v, hq⟩, hqW⟩ hlt
   have cR : W.cell? ⟨z, 0, none⟩ = some (.pointer (some ⟨p, 0, none⟩)) := hq.r.cell 0
   gi_wp2_with fail
   refine ⟨trivial, ?_⟩
   refine (CallsIn.inRound l (callsIn_wide.2 (do_any v p x m W hq.i hq.g hq.gl))).mono ?_
   rintro e w' ⟨rfl, v1, hrm, hi, hr⟩
   have hnF : ∀ k, k ≤ z + 6 → (k < q + 3 ∨ z ≤ k) → ¬ v.F p k := fun k h1 h2 hf => by have := hq.s k (.inl hf); omega
   have hN := hq.n.kp hr.kp (hnF _ (by omega) (by omega))
   have cN : w'.cell? ⟨z + 1, 0, none⟩ = some (.int .i64 pre.length) := hN.cell 0
   have fN : w'.frozen? ⟨z + 1, 0, none⟩ = false := hN.fz 0
   have hRS := hq.res.kp hr.kp (hnF _ (by omega) (by omega)) (hnF _ (by omega) (by omega)) (hnF _ (by omega) (by omega))
   have hR2 := hq.r.kp hr.kp (hnF _ (by omega) (by omega))
   have hBk := below_kp hq.b hr.kp (by rw [HQ.out]; exact hqW) (fun k hk hf => by have := hq.s k (.inl hf); have := HQ.out; omega)
   have hpl : pre.length ≤ 1000001 := by
    have h1 := pcs_count 10 t
    rw [hxs, List.length_append] at h1
    omega
   have hKs : ∀ k, itK (z + 2 + 1) (z + 2) (z + 2 + 2) k → k ≤ z + 6 ∧ (k < q + 3 ∨ z ≤ k) ∧ k ≠ z + 1 ∧ (k ≠ q ∧ k ≠ q + 1 ∧ k ≠ q + 1 + 1 ∨ k = 1) := by
    rintro k (rfl | rfl | rfl | rfl) <;> omega
   have hst := hq.x (x :: rest) hxs
   by_cases h0 : (doR x v.rm).1 = 0
   ·have hrp : repR (x :: rest) v.rm pre.length = repR rest v1.rm (pre.length + 1) := by
     rw [hrm]; simp only [repR]; rw [if_neg (by rw [h0]; simp)]
    have hg1 : v1.rm.Good := by rw [hrm]; exact good_do hq.g x
    rw [h0]
    have v1' : IntKind.i64.wrap ((pre.length : Int) + 1) = ((pre.length + 1 : Nat) : Int) := by rw [IntWalk.i64_in _ (by omega)]; push_cast; rfl
    clear h0
    gi_wp2_with fail
    clear v1'
    have hY := Y2.out
    have kN : Kp (fun k => v.F p k ∨ k = z + 1) W (w'.setCell ⟨z + 1, 0, none⟩ (.int .i64 ((pre.length + 1 : Nat) : Int))) := (hr.kp.mono fun k h => .inl h).set (p := ⟨z + 1, 0, none⟩) (fun _ => .inr rfl) _
    have hsame : ∀ k, k < W.heap.size → k ≤ z + 6 → (k < q + 3 ∨ z ≤ k) → k ≠ z + 1 → (w'.setCell ⟨z + 1, 0, none⟩ (.int .i64 ((pre.length + 1 : Nat) : Int))).heap[k]? = W.heap[k]? := fun k h1 h2 h3 h4 =>
     kN.block k h1 fun h => h.elim (hnF k h2 h3) h4
    have hFs : ∀ k, v1.F p k ∨ v1.C k → (q + 3 ≤ k ∧ k < z) ∨ z + 6 < k := fun k hk => by
     rcases hk with hk | hk
     ·rcases hr.f k hk with h1 | h1
      ·exact hq.s k (.inl h1)
      ·omega
     ·rcases hr.c k hk with h1 | h1
      ·exact hq.s k (.inr h1)
      ·omega
    refine ⟨⟨hsame _ (by omega) (by omega) (by omega) (by omega), hsame _ (by omega) (by omega) (by omega) (by omega)⟩, ⟨fun k hk => ?_, kN.size⟩, ⟨v1, ?_⟩, Nat.le_trans hqW kN.size⟩
    ·have := hKs k hk
     exact hsame k (by omega) this.1 this.2.1 this.2.2.1
    ·refine ⟨⟨hRS.u.far (p := ⟨z + 1, 0, none⟩) (by show q ≠ z + 1; omega) _, hRS.n.far (p := ⟨z + 1, 0, none⟩) (by show q + 1 ≠ z + 1; omega) _, hRS.e.far (p := ⟨z + 1, 0, none⟩) (by show q + 1 + 1 ≠ z + 1; omega) _⟩,
      hR2.far (p := ⟨z + 1, 0, none⟩) (by show z ≠ z + 1; omega) _, ?_, hi.putq (fun k hk => by have := hFs k hk; omega) 0 _, hg1, ?_, ?_, hFs, fun rest' hx' => ?_⟩
     ·have := hN.set 0 (.int .i64 ((pre.length + 1 : Nat) : Int))
      rw [List.length_append, List.length_singleton]
      exact this
     ·exact hq.gl.kp kN fun k hk h => h.elim (fun hf => by have := hq.s k (.inl hf); have := Y2.out; have := hq.i.g k (.inl hf); omega) (fun e => by have := Y2.out; omega)
     ·exact hBk.setCell (p := ⟨z + 1, 0, none⟩) (by show w.heap.size ≤ z + 1; have := HQ.out; have := Y2.out; omega) _
     ·have e : rest' = rest := by
       have h1 := hxs
       rw [hx'] at h1
       simpa using h1
      rw [hst, hrp, e, List.length_append, List.length_singleton]
   ·have hrp : repR (x :: rest) v.rm pre.length = (none, pre.length, (doR x v.rm).1) := by
     simp only [repR]; rw [if_pos h0]
    have hb0 : ((doR x v.rm).1 != 0) = true := by simpa using h0
    have hFIN := hst.trans hrp
    clear hst hrp hrm h0
    generalize (doR x v.rm).1 = e at hb0 hFIN ⊢
    have hmx : Tryz.prog.follows .mixedOrders = true := mixed
    have hz3 : q + 3 ≤ z := Y2.out.1
    have r0 := hRS.u.cell 0
    have r1 := hRS.n.cell 0
    have r2 := hRS.e.cell 0
    have q0 := hRS.u.fz 0
    have q1 := hRS.n.fz 0
    have q2 := hRS.e.fz 0
    have o0 : ∀ (A : World) (u : Value), (A.setCell ⟨q, 0, none⟩ u).cell? ⟨z + 1, 0, none⟩ = A.cell? ⟨z + 1, 0, none⟩ := fun A u => by unfold World.cell?; rw [setCell_other (by show z + 1 ≠ q; omega)]
    gi_wp2_with fail
    have hz5 := hD
    have kW : Kp (fun k => v.F p k ∨ k = q ∨ k = q + 1 ∨ k = q + 1 + 1) W (((w'.setCell ⟨q, 0, none⟩ (.pointer none)).setCell ⟨q + 1, 0, none⟩ (.int .i64 pre.length)).setCell ⟨q + 1 + 1, 0, none⟩ (.int .i64 e)).drew :=
     (hr.kp.mono fun k h => .inl h).step (((kq (kq (kq (Kp.refl _ w') (.inl rfl) (.pointer none)) (.inr (.inl rfl)) (.int .i64 pre.length)) (.inr (.inr rfl)) (.int .i64 e)).mono fun k h => .inr h).step (kd _))
    have hsame : ∀ k, k < W.heap.size → k ≤ z + 6 → (k < q ∨ z ≤ k) → (((w'.setCell ⟨q, 0, none⟩ (.pointer none)).setCell ⟨q + 1, 0, none⟩ (.int .i64 pre.length)).setCell ⟨q + 1 + 1, 0, none⟩ (.int .i64 e)).drew.heap[k]? = W.heap[k]? := fun k h1 h2 h3 =>
     kW.block k h1 fun h => h.elim (hnF k h2 (by omega)) (by omega)
    have hRD := ((hRS.su none).sn pre.length).se e
    have hP : postB (itK (z + 2 + 1) (z + 2) (z + 2 + 2)) w4.heap.size (fun pre W => (∃ v, Rq q z (z + 1) m (z + 6) (pcs 10 t) pre v p w W) ∧ q ≤ W.heap.size)
      (fun _ W => ∃ (n : Nat) (e : Int), repR (pcs 10 t) rm0 0 = (none, n, e) ∧ Res q none n e W ∧ Below q w W ∧ z + 7 ≤ W.heap.size) (pre ++ [x]) W .ret { tmps := #[], defers := [] } (((w'.setCell ⟨q, 0, none⟩ (.pointer none)).setCell ⟨q + 1, 0, none⟩ (.int .i64 pre.length)).setCell ⟨q + 1 + 1, 0, none⟩ (.int .i64 e)).drew :=
     ⟨⟨hsame _ (by omega) (by omega) (by omega), hsame _ (by omega) (by omega) (by omega)⟩, pre.length, e, hFIN, ⟨hRD.u, hRD.n, hRD.e⟩, below_kp (by rw [← HQ.out]; exact hq.b) kW hqW (fun k hk h => h.elim (fun hf => by have := hq.s k (.inl hf); omega) (by omega)), by have := kW.size; omega⟩
    have HP := Lib.hid hP
    clear hP hRD hsame kW hD hSy
    gi_region_with_o (fail)
    all_goals gi_wp2_with fail
    all_goals exact HP.out
  case done =>
   rintro W ⟨⟨v, hq⟩, hqW⟩ hdf
   have hx := hq.x [] (by simp)
   have hFIN : replayT s = (some v.rm, (pcs 10 t).length, 0) := RS.out.trans hx
   have FIN := Lib.hid hFIN
   have R5 := Lib.hid hq.res
   have I5 := Lib.hid hq.i
   have B5 := Lib.hid hq.b
   have S5 := Lib.hid hq.s
   have Q5 := Lib.hid hqW
   have D5 := Lib.hid hdf
   have Y5 := Lib.hid hYy
   have c1 : W.cell? ⟨z, 0, none⟩ = some (.pointer (some ⟨p, 0, none⟩)) := hq.r.cell 0
   have c2 : W.cell? ⟨z + 1, 0, none⟩ = some (.int .i64 (pcs 10 t).length) := hq.n.cell 0
   have C1 := Lib.hid c1
   have C2 := Lib.hid c2
   clear hx hFIN hq hqW hdf hYy c1 c2 hSy hD
   go_wp2_with fail
   have hlt : w4.heap.size < W.heap.size := (Array.getElem?_eq_some_iff.1 D5.out).1
   have S6 : Hid (Sc p z (pcs 10 t).length W) := Lib.hid ⟨C1.out, C2.out, by have := Z4.out; omega⟩
   have K5 : Hid (Kp (fun k => k = q ∨ k = q + 1 ∨ k = q + 1 + 1) W W) := Lib.hid (Kp.refl _ _)
   have FN : Hid (∀ W', Kp (fun k => k = q ∨ k = q + 1 ∨ k = q + 1 + 1) W W' → W'.heap[w4.heap.size]? = some (.deferred (some [])) ∧ RetPl (replayT s) w (.returned (.tuple #[.pointer (some ⟨p, 0, none⟩), .int .i64 (pcs 10 t).length, .int .i64 0])) (W'.putObj w4.heap.size (.deferred none))) := Lib.hid fun W' k => by
    have hY := Y2.out
    have hq := HQ.out
    have hD2 := Z4.out
    have k2 : Kp (fun k => k = q ∨ k = q + 1 ∨ k = q + 1 + 1 ∨ k = w4.heap.size) W (W'.putObj w4.heap.size (.deferred none)) :=
     (k.mono (S' := fun k => k = q ∨ k = q + 1 ∨ k = q + 1 + 1 ∨ k = w4.heap.size) fun x e => by rcases e with e | e | e <;> simp [e]).step (Kp.obj (.inr (.inr (.inr rfl))) _)
    refine ⟨(k.block _ hlt (by omega)).trans D5.out, below_kp B5.out k2 B5.out.size (fun x hx e => by omega), ?_⟩
    rw [FIN.out]
    exact ⟨v, p, rfl, rfl, I5.out.kp k2 (fun b hb e => by have := S5.out b hb; omega), fun k hk => by have := S5.out k hk; omega⟩
   clear hlt
   refine wp_region_hj [0, 1] [] [2, 3, 4] (Sc p z (pcs 10 t).length) mixed (by kernel_rfl) (fun A B h hb => h.below hb) (S6.out.below (below_drew _)) ?_
   iterate 2
    refine canonG_read (v := ?_) rfl (by rfl) ?_ ?_
    rotate_left
    ·intro A hA
     have c1 := hA.1
     have c2 := hA.2.1
     go_simp <;> with_reducible rfl
    simp only [List.getElem_toArray, List.getElem_cons_zero, List.getElem_cons_succ, Act.put, List.setIfInBounds_toArray, List.set_cons_succ, List.set_cons_zero]
   refine canonG_nil ?_
   refine tailJ_one (t := 2) (ts' := [3, 4]) (ps' := []) (ns := []) (by kernel_rfl) rfl (by kernel_rfl) (by kernel_rfl) rfl ?_
   intro Xw0 hb
   have hb := undrew hb
   have RXw0 := Lib.hid (R5.out.below hb)
   have KXw0 := Lib.hid (K5.out.grow hb)
   have SXw0 := Lib.hid (S6.out.below hb)
   clear hb
   have f0 := RXw0.out.u.fz 0
   have f1 := RXw0.out.n.fz 0
   have f2 := RXw0.out.e.fz 0
   have d0 := RXw0.out.u.cell 0
   have d1 := RXw0.out.n.cell 0
   have d2 := RXw0.out.e.cell 0
   go_wp2_with fail
   have RYw0 := Lib.hid (RXw0.out.su (some ⟨p, 0, none⟩))
   have KYw0 := Lib.hid (kq KXw0.out (.inl rfl) (.pointer (some ⟨p, 0, none⟩)))
   have SYw0 := Lib.hid (SXw0.out.set (i := q) (by have := Y2.out; omega) (.pointer (some ⟨p, 0, none⟩)))
   clear f0 f1 f2 d0 d1 d2
   refine ⟨SYw0.out, canonG_nil ?_⟩
   generalize Xw0.setCell ⟨q, 0, none⟩ (.pointer (some ⟨p, 0, none⟩)) = Yw0 at RYw0 KYw0 SYw0 ⊢
   refine tailJ_one (t := 3) (ts' := [4]) (ps' := []) (ns := []) (by kernel_rfl) rfl (by kernel_rfl) (by kernel_rfl) rfl ?_
   intro Xw1 hb
   have RXw1 := Lib.hid (RYw0.out.below hb)
   have KXw1 := Lib.hid (KYw0.out.grow hb)
   have SXw1 := Lib.hid (SYw0.out.below hb)
   clear hb
   have f0 := RXw1.out.u.fz 0
   have f1 := RXw1.out.n.fz 0
   have f2 := RXw1.out.e.fz 0
   have d0 := RXw1.out.u.cell 0
   have d1 := RXw1.out.n.cell 0
   have d2 := RXw1.out.e.cell 0
   go_wp2_with fail
   have RYw1 := Lib.hid (RXw1.out.sn (pcs 10 t).length)
   have KYw1 := Lib.hid (kq KXw1.out (.inr (.inl rfl)) (.int .i64 (pcs 10 t).length))
   have SYw1 := Lib.hid (SXw1.out.set (i := q + 1) (by have := Y2.out; omega) (.int .i64 (pcs 10 t).length))
   clear f0 f1 f2 d0 d1 d2
   refine ⟨SYw1.out, canonG_nil ?_⟩
   generalize Xw1.setCell ⟨q + 1, 0, none⟩ (.int .i64 (pcs 10 t).length) = Yw1 at RYw1 KYw1 SYw1 ⊢
   refine tailJ_last (t := 4) (by kernel_rfl) rfl ?_
   intro Xw2 hb
   have RXw2 := Lib.hid (RYw1.out.below hb)
   have KXw2 := Lib.hid (KYw1.out.grow hb)
   have SXw2 := Lib.hid (SYw1.out.below hb)
   clear hb
   have f0 := RXw2.out.u.fz 0
   have f1 := RXw2.out.n.fz 0
   have f2 := RXw2.out.e.fz 0
   have d0 := RXw2.out.u.cell 0
   have d1 := RXw2.out.n.cell 0
   have d2 := RXw2.out.e.cell 0
   go_wp2_with fail
   have RYw2 := Lib.hid (RXw2.out.se 0)
   have KYw2 := Lib.hid (kq KXw2.out (.inr (.inr rfl)) (.int .i64 0))
   have SYw2 := Lib.hid (SXw2.out.set (i := q + 1 + 1) (by have := Y2.out; omega) (.int .i64 0))
   clear f0 f1 f2 d0 d1 d2
   refine NoPanic.normal ?_
   go_wp2_with fail
   obtain ⟨g1, g2⟩ := FN.out _ KYw2.out
   exact res_endD RYw2.out rfl rfl rfl g1 (by have := Y2.out; have := Z4.out; omega) g2
  case stop =>
   rintro pre W ⟨n, e, h1, h2, h3, h4⟩ hdf
   refine wpIn_wide.2 ?_
   go_wp2_with fail
   refine res_endD h2 rfl rfl rfl hdf (by have := Y2.out; omega) ⟨?_, ?_⟩
   ·rw [HQ.out]
    exact below_kp h3 (Kp.obj (S := fun k => k = w4.heap.size) rfl _) (by have := Y2.out; omega) (fun x hx e => by have := Y2.out; omega)
   ·rw [RS.out, h1]
end Go.Proofs.YtihhclhpjgeniaaGreatDoor
