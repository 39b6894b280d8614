/- Merged texts: Gc Gd Gv -/
import Derived.Test.YtihhclhpjgeniaaGreatDoorSB2
import Derived.Test.YtihhclhpjgeniaaGreatDoorSB23
import Derived.Lib.SplitLaws
namespace Go.Proofs.YtihhclhpjgeniaaGreatDoor
open Go.RowKit Go.Sort
theorem bun_idx (v : RV) (n : List UInt8) : v.rm.bun n = v.bs.findIdx? fun b => b.name == n := by
 unfold Rm.bun RV.rm
 exact find_map (fun b : NB => (b.name, b.v.h)) (fun b => b.1 == n) v.bs
theorem wig_idx (v : RV) (n : List UInt8) : v.rm.wig n = v.ws.findIdx? fun x => x.w.name == n := by
 unfold Rm.wig RV.rm
 exact find_map (fun x : NW => x.w) (fun w => w.name == n) v.ws
set_option maxRecDepth 100000 in
set_option maxHeartbeats 1000000 in
theorem bundleR_any (v : RV) (s : Int) (p : Nat) (n : List UInt8) (w : World) (h : v.In s p w) (hl : v.bs.length ≤ 12) :
  Calls Tryz.prog 68 #[.pointer (some ⟨p, 0, none⟩), .string (mkB n)] w fun r w' => r = .returned (.int .i64 (idxI (v.rm.bun n))) ∧ Below w.heap.size w w' := by
 have H := Lib.hid h
 have c2 : (w.alloc (.cells #[.string (mkB n)] 9)).cell? ⟨p, 2, none⟩ = some (.slice v.A v.bs.length v.ca) := At.cell (h.room.al _) 2
 clear h
 go_enter Tryz.func68, Tryz.ntmps68
 go_wp2_with fail
 clear c2
 with_reducible refine (ixB_any v.bs v.A v.ca n w.heap.size _ (H.out.below (belowA _ _)).rb (At.new _ _ _) (by omega)).mono ?_
 rintro _ w2 ⟨rfl, hb⟩
 have HB := Lib.hid (below1 _ hb)
 clear hb
 go_wp2_with fail
 go_ret
 exact ⟨by rw [bun_idx]; rfl, HB.out⟩
set_option maxRecDepth 100000 in
set_option maxHeartbeats 1000000 in
theorem wigR_any (v : RV) (s : Int) (p : Nat) (n : List UInt8) (w : World) (h : v.In s p w) (hl : v.ws.length ≤ 12) :
  Calls Tryz.prog 65 #[.pointer (some ⟨p, 0, none⟩), .string (mkB n)] w fun r w' => r = .returned (.int .i64 (idxI (v.rm.wig n))) ∧ Below w.heap.size w w' := by
 have H := Lib.hid h
 have c2 : (w.alloc (.cells #[.string (mkB n)] 9)).cell? ⟨p, 3, none⟩ = some (.slice v.B v.ws.length v.cb) := At.cell (h.room.al _) 3
 clear h
 go_enter Tryz.func65, Tryz.ntmps65
 go_wp2_with fail
 clear c2
 with_reducible refine (ixW_any v.ws v.B v.cb n w.heap.size _ (H.out.below (belowA _ _)).rw (At.new _ _ _) (by omega)).mono ?_
 rintro _ w2 ⟨rfl, hb⟩
 have HB := Lib.hid (below1 _ hb)
 clear hb
 go_wp2_with fail
 go_ret
 exact ⟨by rw [wig_idx]; rfl, HB.out⟩
theorem zero4 (w : World) : (zeroValue 4).run Tryz.prog w = .ok (.bool false) w := by kernel_rfl
set_option maxRecDepth 100000 in
theorem UsedIn.look {w : World} {b : Nat} {l : List (List UInt8)} (h : UsedIn w b l) (n : List UInt8) (hn : n.length ≤ maxLen) : (Instr.lookup 107 (.map (some b)) (.string (mkB n)) false).run Tryz.prog w = .ok (.bool (l.contains n)) w := by
 obtain ⟨D, h1, h2⟩ := h
 obtain ⟨v, ps, hr, hv⟩ := h1.lookup (Maps.string_keyed Tryz.underlying9) Tryz.underlying107 (zero4 w) (plainElem_bool Tryz.underlying4 false) (keyS n hn)
 rw [h2 n] at hv
 rw [hr]
 have hvb : v = .bool (l.contains n) := by
  unfold plainElem at hv
  rw [Tryz.underlying4] at hv
  cases v <;> simp at hv
  rw [hv.1]; simp
 rw [hvb]
theorem fresh_eq (v : RV) (n : List UInt8) : v.rm.fresh n = (okName n && !(v.used.contains n)) := rfl
set_option maxRecDepth 100000 in
set_option maxHeartbeats 1000000 in
theorem freshR_any (v : RV) (s : Int) (p : Nat) (n : List UInt8) (w : World) (h : v.In s p w) (hn : n.length ≤ 1000000) :
  Calls Tryz.prog 217 #[.pointer (some ⟨p, 0, none⟩), .string (mkB n)] w fun r w' => r = .returned (.bool (v.rm.fresh n)) ∧ w' = w := by
 have hl := h.mp.look n (by unfold maxLen; omega)
 have c4 : w.cell? ⟨p, 4, none⟩ = some (.map (some v.M)) := At.cell h.room 4
 have hf := fresh_eq v n
 obtain ⟨u, hu⟩ : ∃ u, v.used.contains n = u := ⟨_, rfl⟩
 rw [hu] at hl hf
 have HF := Lib.hid hf
 clear h hf hu
 go_enter Tryz.func217, Tryz.ntmps217
 go_wp2_with fail
 with_reducible refine (roomName_any (mkB n) w (by rw [size_mk]; exact hn)).mono ?_
 rintro _ w1 ⟨rfl, rfl⟩
 rw [show (mkB n).data.toList = n from rfl]
 cases ho : okName n with
 | false =>
  rw [ho] at HF
  go_wp2_with fail
  go_ret
  exact ⟨by rw [HF.out]; rfl, rfl⟩
 | true =>
  rw [ho] at HF
  go_wp2_with fail
  go_ret
  exact ⟨by rw [HF.out]; rfl, rfl⟩
theorem UsedIn.store {w : World} {b : Nat} {l : List (List UInt8)} (h : UsedIn w b l) (n : List UInt8) (hn : n.length ≤ maxLen) (hl : l.length < maxLen) :
  ∃ w', (Instr.mapUpdate 107 (.map (some b)) (.string (mkB n)) (.bool true)).run Tryz.prog w = .ok () w' ∧ UsedIn w' b (l ++ [n]) ∧ w.grownBy w' (some b) := by
 obtain ⟨D, h1, h2⟩ := h
 obtain ⟨w', hr, h3, h4⟩ := h1.update (Maps.string_keyed Tryz.underlying9) Tryz.underlying107 hl (keyS n hn) (plainElem_bool Tryz.underlying4 true)
 refine ⟨w', hr, ⟨_, by rw [List.length_append]; exact h3, fun m => ?_⟩, h4⟩
 by_cases e : m = n
 ·subst e
  rw [Maps.atKey_put_same h1.isMap ((Maps.string_keyed Tryz.underlying9).key (keyS m hn))]
  simp
 ·rw [Maps.atKey_put_other (by simpa using e), h2 m]
  simp [e]
theorem info130 : (Tryz.prog.info? 130).map (fun i => (i.zero, i.size, i.bytes)) = some (some (.agg #[.string ByteArray.empty, .slice none 0 0, .slice none 0 0]), 3, 64) := by kernel_rfl
theorem grown_on {W X X' : World} {row : Option Nat} (h : W.grownBy X row) (hb : Below X.heap.size X X') : W.grownBy X' row :=
 ⟨hb.os.trans h.os, hb.tape.trans h.tape, hb.output.trans h.output, Nat.le_trans h.size hb.size, fun k hk hne => (hb.block k (Nat.lt_of_lt_of_le hk h.size)).trans (h.block k hk hne)⟩
theorem nb_one (b : NB) : ∀ u ∈ b.cells, u.oneCell' = true := by
 intro u hu
 simp only [NB.cells, List.mem_cons, List.not_mem_nil, or_false] at hu
 rcases hu with rfl | rfl | rfl <;> rfl
structure AS (p K : Nat) (cs : Array Value) (u : BV) (W : World) : Prop where
 a : At W p cs 109
 b : At W K u.arr 56
theorem AS.below {p K : Nat} {cs : Array Value} {u : BV} {W W' : World} (h : AS p K cs u W) (hb : Below W.heap.size W W') : AS p K cs u W' := ⟨h.a.below hb, h.b.below hb⟩
set_option maxRecDepth 100000 in
set_option maxHeartbeats 1000000 in
theorem addR_any (v : RV) (s : Int) (p : Nat) (n : List UInt8) (u : BV) (w : World) (h : v.In s p w) (hu : u.In w) (hn : n.length ≤ 1000000) (hl : v.used.length ≤ 1000000) (hnu : ∀ k, blk u.A u.n k ∨ blk u.B u.m k → ¬ v.F p k ∧ 8 ≤ k) (hbl : v.bs.length ≤ 1000) :
  Calls Tryz.prog 218 #[.pointer (some ⟨p, 0, none⟩), .string (mkB n), .agg u.arr] w fun r w' => r = .returned (.tuple #[]) ∧ ∃ A' c', ({ v with A := A', ca := c', bs := v.bs ++ [⟨n, u⟩], used := v.used ++ [n] } : RV).In s p w' ∧
   ∀ v0 w0, Rs p v0 w0 v w → (∀ k, blk u.A u.n k ∨ blk u.B u.m k → w0.heap.size ≤ k) → Rs p v0 w0 { v with A := A', ca := c', bs := v.bs ++ [⟨n, u⟩], used := v.used ++ [n] } w' := by
 have H := Lib.hid (h.below (belowA w (.cells u.arr 56)))
 have HU := Lib.hid (hu.below (belowA w (.cells u.arr 56)))
 have KB := Lib.hid (At.new w u.arr 56)
 have c4 : (w.alloc (.cells u.arr 56)).cell? ⟨p, 4, none⟩ = some (.map (some v.M)) := At.cell H.out.room 4
 obtain ⟨w1, hr, hm, hg⟩ := H.out.mp.store n (by unfold maxLen; omega) (by unfold maxLen; omega)
 have HRS := Lib.hid (show ∀ v0 w0, Rs p v0 w0 v w → Rs p v0 w0 v (w.alloc (.cells u.arr 56)) from fun v0 w0 k => k.grow (belowA _ _))
 have HLT := Lib.hid (show ∀ k, v.F p k ∨ v.C k → k < w.heap.size from fun k hk => h.lt hk)
 clear h hu
 go_enter Tryz.func218, Tryz.ntmps218
 go_wp2_with fail
 obtain ⟨hv1, hk1⟩ := H.out.addN hm hg
 have hMw : v.M < w.heap.size := HLT.out _ (.inl (.inr (.inl rfl)))
 have HV1 := Lib.hid hv1
 have HK1 := Lib.hid hk1
 have KB1 := Lib.hid (At.kp KB.out hk1 (by omega))
 have HU1 := Lib.hid (HU.out.kb hk1 (fun b hb e => (hnu b (.inl hb)).1 (by rw [e]; exact .inr (.inl rfl))) (fun b hb e => (hnu b (.inr hb)).1 (by rw [e]; exact .inr (.inl rfl))))
 have HS1 : Hid (AS p w.heap.size (({ v with used := v.used ++ [n] } : RV).cells s) u w1) := Lib.hid ⟨hv1.room, KB1.out⟩
 clear hv1 hk1 hr hm hg c4 KB HU
 refine wp_region_hv [0, 1, 2, 3, 4, 5, 6, 7, 10, 11] [8, 9, 12] (fun W => AS p w.heap.size (({ v with used := v.used ++ [n] } : RV).cells s) u W) mixed (by kernel_rfl) (fun W W' h hb => h.below hb) ⟨HS1.out.a, HS1.out.b⟩ ?_
 iterate 10
  refine canonG_read (v := ?_) rfl (by rfl) ?_ ?_
  rotate_left
  ·intro W hS
   have q2 : W.cell? ⟨p, 2, none⟩ = some (.slice v.A v.bs.length v.ca) := At.cell hS.a 2
   have q0 := At.cell hS.b
   go_simp <;> with_reducible rfl
  simp only [List.getElem_toArray, List.getElem_cons_zero, List.getElem_cons_succ, Act.put, List.setIfInBounds_toArray, List.set_cons_succ, List.set_cons_zero]
 refine canonG_nil ?_
 refine tailG_one (t := 8) (ts' := [9, 12]) (by kernel_rfl) rfl rfl ?_
 intro W2 hb2
 have V2 := Lib.hid (HV1.out.below (undrew hb2))
 have U2 := Lib.hid (HU1.out.below (undrew hb2))
 have S2 := Lib.hid (HS1.out.below (undrew hb2))
 have K2 := Lib.hid (HK1.out.grow (undrew hb2))
 clear hb2 HV1 HU1 HS1 HK1
 go_wp2_with fail
 have N3 := Lib.hid (At.new W2 #[.string (mkB n), .slice u.A u.n u.c, .slice u.B u.m u.d] 130)
 have V3 := Lib.hid (V2.out.below (belowA W2 (.cells #[.string (mkB n), .slice u.A u.n u.c, .slice u.B u.m u.d] 130)))
 have U3 := Lib.hid (U2.out.below (belowA W2 (.cells #[.string (mkB n), .slice u.A u.n u.c, .slice u.B u.m u.d] 130)))
 have S3 := Lib.hid (S2.out.below (belowA W2 (.cells #[.string (mkB n), .slice u.A u.n u.c, .slice u.B u.m u.d] 130)))
 have K3 := Lib.hid (K2.out.grow (belowA W2 (.cells #[.string (mkB n), .slice u.A u.n u.c, .slice u.B u.m u.d] 130)))
 clear V2 U2 S2 K2
 generalize W2.alloc (.cells #[.string (mkB n), .slice u.A u.n u.c, .slice u.B u.m u.d] 130) = W3 at N3 V3 U3 S3 K3 ⊢
 generalize W2.heap.size = M at N3 ⊢
 refine ⟨S3.out, ?_⟩
 refine tailG_one (t := 9) (ts' := [12]) (by kernel_rfl) rfl rfl ?_
 intro W4 hb4
 have N4 := Lib.hid (N3.out.below hb4)
 have V4 := Lib.hid (V3.out.below hb4)
 have U4 := Lib.hid (U3.out.below hb4)
 have S4 := Lib.hid (S3.out.below hb4)
 have K4 := Lib.hid (K3.out.grow hb4)
 clear hb4 N3 V3 U3 S3 K3
 have hrd : Reads W4 W4.heap.size 3 (some ⟨M, 0, none⟩) 1 (NB.cells ⟨n, u⟩) := ⟨rfl, fun _ => ⟨_, rfl, N4.out.lt, fun j x hj => by rw [Addr.add_mid, Nat.zero_add, At.cell N4.out j]; simpa [NB.cells] using hj⟩⟩
 refine wpList_pushXm rfl _ _ 105 130 rfl Tryz.underlying105 info130 rfl (by decide) (by decide) 0 _ v.A v.bs.length v.ca (v.bs.flatMap NB.cells) (some ⟨M, 0, none⟩) 1 1 (NB.cells ⟨n, u⟩) rfl V4.out.rb (Nat.zero_le _) rfl hrd (nb_one _) (by omega) ?_
 intro A' c' X ho hg hl2
 have hbp := V4.out.ne_p
 have hpK : p < w.heap.size := HLT.out p (.inl (.inl rfl))
 have S5 : Hid (AS p w.heap.size (({ v with used := v.used ++ [n] } : RV).cells s) u X) := Lib.hid ⟨S4.out.a.grown hg (fun e => by
   obtain ⟨a, ha, hk⟩ := ownb e
   exact hbp.2.1 a ha hk), S4.out.b.grown hg (fun e => by
   obtain ⟨a, ha, hk⟩ := ownb e
   have := HLT.out a.block (.inl (.inr (.inr (.inl ⟨a, ha, rfl⟩))))
   omega)⟩
 have HO := Lib.hid ho
 have HG := Lib.hid hg
 have HL2 := Lib.hid hl2
 clear ho hg hl2 hbp hrd
 go_wp2_with fail
 refine ⟨S5.out, ?_⟩
 refine tailG_last (t := 12) (by kernel_rfl) rfl ?_
 intro W5 hb5
 have HO5 := Lib.hid (row_on HO.out hb5)
 have HG5 := Lib.hid (grown_on HG.out hb5)
 have S6 := Lib.hid (S5.out.below hb5)
 clear hb5 HO HG S5
 have fr := S6.out.a.fz
 have cr : W5.cell? ⟨p, 2, none⟩ = some (.slice v.A v.bs.length v.ca) := At.cell S6.out.a 2
 go_wp2_with fail
 refine NoPanic.normal ?_
 go_wp2_with fail
 go_end0
 obtain ⟨r1, r2, r3, r4⟩ := V4.out.addB (b := ⟨n, u⟩) U4.out hnu HO5.out HG5.out HL2.out
 refine ⟨rfl, A', c', r1, fun v0 w0 k0 hnew => ?_⟩
 have q1 := (HRS.out v0 w0 k0).step K4.out (v2 := { v with used := v.used ++ [n] }) (fun x _ e => .inr (.inl e)) (fun j hj => .inl hj) (fun j hj => .inl hj)
 have hsz := q1.kp.size
 refine q1.step r2 (fun x _ e => ?_) (fun j hj => (r3 j hj).imp id fun h => Nat.le_trans hsz h) (fun j hj => (r4 j hj).imp id (hnew j))
 rcases e with e | e
 ·exact .inl e
 ·exact .inr (.inr (.inl e))
end Go.Proofs.YtihhclhpjgeniaaGreatDoor
namespace Go.Proofs.YtihhclhpjgeniaaGreatDoor
open Go.RowKit Go.Sort
structure OV where
 o : Ordr
 form : List UInt8
 f : Value
 A : Option Addr
 n : Nat
 c : Nat
 B : Option Addr
 m : Nat
 d : Nat
abbrev OV.arr (x : OV) : Array Value := #[.int .i64 x.o.kind, .string (mkB x.form), x.f, .slice x.A x.n x.c, .string (mkB x.o.style), .slice x.B x.m x.d]
structure OV.In (x : OV) (w : World) : Prop where
 r : Reads w w.heap.size 1 x.A x.n (strL x.o.names)
 s : Reads w w.heap.size 1 x.B x.m (ints x.o.nums)
theorem OV.In.below {x : OV} {w w' : World} (h : x.In w) (hb : Below w.heap.size w w') : x.In w' := ⟨h.r.on hb, h.s.on hb⟩
theorem OV.In.n {x : OV} {w : World} (h : x.In w) : x.n = x.o.names.length := by have := h.r.1; rw [strL_len] at this; omega
theorem OV.In.m {x : OV} {w : World} (h : x.In w) : x.m = x.o.nums.length := by have := h.s.1; rw [ints_length] at this; omega
theorem OV.In.name {x : OV} {w : World} (h : x.In w) {k : Nat} {a : List UInt8} (hk : x.o.names[k]? = some a) : ∃ ad : Addr, x.A = some ad ∧ w.cell? (ad.add k) = some (.string (mkB a)) ∧ k < x.n ∧ ad.block < w.heap.size := by
 have hl := (List.getElem?_eq_some_iff.1 hk).1
 have hn := h.n
 obtain ⟨ad, e, hb, hc⟩ := h.r.2 (by omega)
 refine ⟨ad, e, ?_, by omega, hb⟩
 exact hc k _ (by simp [strL, hk])
theorem OV.In.num {x : OV} {w : World} (h : x.In w) {k : Nat} {a : Int} (hk : x.o.nums[k]? = some a) : ∃ ad : Addr, x.B = some ad ∧ w.cell? (ad.add k) = some (.int .i64 a) ∧ k < x.m ∧ ad.block < w.heap.size := by
 have hl := (List.getElem?_eq_some_iff.1 hk).1
 have hn := h.m
 obtain ⟨ad, e, hb, hc⟩ := h.s.2 (by omega)
 refine ⟨ad, e, ?_, by omega, hb⟩
 exact hc k _ (by simp [ints, hk])
theorem ws_at (v : RV) (i : Nat) : v.rm.ws[i]? = v.ws[i]?.map (·.w) := by simp [RV.rm]
theorem bs_at (v : RV) (i : Nat) : v.rm.hr i = (v.bs[i]?.map (·.v.h)).getD noH := by
 unfold Rm.hr RV.rm
 simp only [List.getElem?_map]
 cases v.bs[i]? <;> rfl
def WigAt (v : RV) (i : Nat) (q : Option Addr) : Prop := ∃ g, v.B = some ⟨g, 0, none⟩ ∧ q = some ⟨g, i * 13, none⟩
theorem inW_none {r : Rm} {a : List UInt8} (s : Int) (h : r.wig a = none) : (inW r a s).1 = 5 := by unfold inW; rw [h]
theorem inW_some {r : Rm} {a : List UInt8} (s : Int) {i : Nat} {w : Wg} (h : r.wig a = some i) (hi : r.ws[i]? = some w) : inW r a s = (if w.state = s then 0 else 13, i, w) := by
 unfold inW; rw [h]; dsimp only; rw [hi]; dsimp only; split <;> rfl
set_option maxRecDepth 100000 in
set_option maxHeartbeats 1000000 in
theorem inR_any (v : RV) (st : Int) (p : Nat) (x : OV) (a : List UInt8) (s : Int) (w : World) (h : v.In st p w) (hx : x.In w) (ha : x.o.names[0]? = some a) (hl : v.ws.length ≤ 12) :
  Calls Tryz.prog 227 #[.pointer (some ⟨p, 0, none⟩), .agg x.arr, .int .i64 s] w fun r w' => (∃ q : Option Addr, r = .returned (.tuple #[.pointer q, .int .i64 (inW v.rm a s).1]) ∧ ((inW v.rm a s).1 = 0 → WigAt v (inW v.rm a s).2.1 q)) ∧ Below w.heap.size w w' := by
 have H := Lib.hid (h.below (belowA w (.cells x.arr 114)))
 have KB := Lib.hid (At.new w x.arr 114)
 obtain ⟨ad, e1, hc, hk, _⟩ := (hx.below (belowA w (.cells x.arr 114))).name ha
 rw [show ad.add 0 = ad from rfl] at hc
 clear h hx ha
 go_enter Tryz.func227, Tryz.ntmps227
 go_wp2_with fail
 with_reducible refine (wigR_any v st p a _ H.out hl).mono ?_
 rintro _ w2 ⟨rfl, hb⟩
 have H2 := Lib.hid (H.out.below hb)
 have HB := Lib.hid (below1 _ hb)
 clear hb hc H KB
 cases hw : v.rm.wig a with
 | none =>
  have HE := Lib.hid (inW_none s hw)
  rw [show idxI none = -1 from rfl]
  clear hw
  go_wp2_with fail
  go_ret2
  exact ⟨⟨none, by rw [HE.out]; rfl, fun h => by rw [HE.out] at h; cases h⟩, HB.out⟩
 | some i =>
  have hi := hw
  rw [wig_idx] at hi
  obtain ⟨hil, _⟩ := findIdx_lt hi
  obtain ⟨y, hy⟩ : ∃ y, v.ws[i]? = some y := ⟨v.ws[i], List.getElem?_eq_getElem hil⟩
  have HE := Lib.hid (inW_some s hw (by rw [ws_at, hy]; rfl))
  rw [show idxI (some i) = (i : Int) from rfl]
  obtain ⟨g, hg⟩ := own_form H2.out.rw (by omega)
  have hrow := H2.out.rw
  rw [hg] at hrow
  have d10 : w2.cell? ⟨g, i * 13 + 10, none⟩ = some (.int .i64 y.w.state) := own_cell nw_len (by omega) hrow hy (j := 10) (by omega)
  have c3 : w2.cell? ⟨p, 3, none⟩ = some (.slice (some ⟨g, 0, none⟩) v.ws.length v.cb) := by rw [← hg]; exact At.cell H2.out.room 3
  have HG := Lib.hid hg
  clear hw hi hy hrow hg
  by_cases hs : y.w.state = s
  ·go_wp2_with fail
   go_ret2
   rw [if_pos hs] at HE
   exact ⟨⟨some ⟨g, i * 13, none⟩, by rw [HE.out]; rfl, fun _ => by rw [HE.out]; exact ⟨g, HG.out, rfl⟩⟩, HB.out⟩
  ·have hs2 : (y.w.state == s) = false := by simpa using hs
   go_wp2_with fail
   go_ret2
   rw [if_neg hs] at HE
   exact ⟨⟨none, by rw [HE.out]; rfl, fun h => by rw [HE.out] at h; cases h⟩, HB.out⟩
def RetO (v : RV) (st : Int) (p : Nat) (w : World) (x : Int × Rm) (r : Ending) (w' : World) : Prop :=
 r = .returned (.int .i64 x.1) ∧ ∃ v' : RV, v'.rm = x.2 ∧ v'.In st p w' ∧ Rs p v w v' w'
theorem retO_no {v : RV} {st : Int} {p : Nat} {w w' : World} {x : Int × Rm} {e : Int} (hx : x = (e, v.rm)) (h : v.In st p w') (hb : Below w.heap.size w w') : RetO v st p w x (.returned (.int .i64 e)) w' := by
 subst hx
 exact ⟨rfl, v, rfl, h, Rs.below hb⟩
theorem inW_at {r : Rm} {a : List UInt8} {s : Int} (h : (inW r a s).1 = 0) : r.ws[(inW r a s).2.1]? = some (inW r a s).2.2 := (inW_zero h).1
theorem wig_nw {v : RV} {a : List UInt8} {s : Int} (h : (inW v.rm a s).1 = 0) : ∃ y, v.ws[(inW v.rm a s).2.1]? = some y ∧ y.w = (inW v.rm a s).2.2 := by
 have := inW_at h
 rw [ws_at] at this
 cases hy : v.ws[(inW v.rm a s).2.1]? with
 | none => rw [hy] at this; cases this
 | some y => rw [hy] at this; exact ⟨y, rfl, by injection this⟩
theorem rm_setW (v : RV) (i : Nat) (y : NW) : ({ v with ws := v.ws.set i y } : RV).rm = v.rm.setW i y.w := by
 simp [RV.rm, Rm.setW, List.map_set]
theorem RV.In.far {v : RV} {st : Int} {p : Nat} {w : World} (h : v.In st p w) {k : Nat} (hk : v.C k ∨ w.heap.size ≤ k) : ¬ v.F p k ∧ 8 ≤ k := by
 rcases hk with hk | hk
 ·exact ⟨h.sep k hk, h.g k (.inr hk)⟩
 ·refine ⟨fun hf => ?_, ?_⟩
  ·have := h.lt (.inl hf); omega
  ·have h1 := h.lt (k := p) (.inl (.inl rfl))
   have h2 := h.g p (.inl (.inl rfl))
   omega
theorem wig_end {v : RV} {st : Int} {p : Nat} {w w2 : World} {v1 : RV} (h : v.In st p w) (h2 : v1.In st p w2) (hrs : Rs p v w v1 w2) (hF : ∀ k, v1.F p k → v.F p k) {g i : Nat} (hg : v1.B = some ⟨g, 0, none⟩) {y z : NW} (hy : v1.ws[i]? = some y) {j : Nat} {vs : List Value} (hj : j + vs.length ≤ 13) (hz : z.cells = ovr y.cells j vs)
  (hr : Reads w2 w2.heap.size 6 z.A z.n (ents z.w.card) ∧ z.n ≤ z.c) (hnew : ∀ k, blk z.A z.n k → v1.C k ∨ w.heap.size ≤ k) :
  ({ v1 with ws := v1.ws.set i z } : RV).In st p (w2.setCells g (i * 13 + j) vs) ∧ Rs p v w { v1 with ws := v1.ws.set i z } (w2.setCells g (i * 13 + j) vs) := by
 have hn : ∀ k, blk z.A z.n k → ¬ v1.F p k ∧ 8 ≤ k := fun k hk => by
  rcases hnew k hk with h3 | h3
  ·exact ⟨h2.sep k h3, h2.g k (.inr h3)⟩
  ·have h8 := (h.far (.inr h3)).2
   exact ⟨fun hf => (h.far (.inr h3)).1 (hF k hf), h8⟩
 obtain ⟨r1, r2, r3⟩ := h2.putW hg hy hj hz hr hn
 exact ⟨r1, hrs.step r2 (fun x _ e => by rw [e]; exact .inr (.inr (.inr (.inl ⟨_, hg, rfl⟩)))) (fun j hj => .inl hj) (fun j hj => by
  rcases r3 j hj with h3 | h3
  ·exact .inl h3
  ·exact hnew j h3)⟩
set_option maxRecDepth 100000 in
set_option maxHeartbeats 1000000 in
theorem lendO_any (v : RV) (st : Int) (p : Nat) (x : OV) (a : List UInt8) (w : World) (h : v.In st p w) (hx : x.In w) (ha : x.o.names[0]? = some a) (hl : v.ws.length ≤ 12) :
  Calls Tryz.prog 163 #[.pointer (some ⟨p, 0, none⟩), .agg x.arr] w (RetO v st p w (lendR v.rm a)) := by
 have H0 := Lib.hid h
 have H := Lib.hid (h.below (belowA w (.cells x.arr 114)))
 have HX := Lib.hid (hx.below (belowA w (.cells x.arr 114)))
 clear h hx
 go_enter Tryz.func163, Tryz.ntmps163
 go_wp2_with fail
 with_reducible refine (inR_any v st p x a 1 _ H.out HX.out ha hl).mono ?_
 rintro _ w2 ⟨⟨q, rfl, hq⟩, hb⟩
 have H2 := Lib.hid (H.out.below hb)
 have HB := Lib.hid (below1 _ hb)
 have HQ := Lib.hid hq
 clear hb hq H HX
 obtain ⟨e, he⟩ : ∃ e, (inW v.rm a 1).1 = e := ⟨_, rfl⟩
 have HE := Lib.hid he
 rw [he]
 clear he
 by_cases h0 : e = 0
 ·obtain ⟨g, hg, rfl⟩ := HQ.out (by rw [HE.out, h0])
  obtain ⟨y, hy, hyw⟩ := wig_nw (show (inW v.rm a 1).1 = 0 by rw [HE.out, h0])
  have HL : Hid (lendR v.rm a = (0, v.rm.setW (inW v.rm a 1).2.1 { (inW v.rm a 1).2.2 with state := 2 })) := Lib.hid (by unfold lendR; rw [if_neg (by rw [HE.out, h0]; simp)])
  have HY := Lib.hid hy
  have HYW := Lib.hid hyw
  have hrow := H2.out.rw
  rw [hg] at hrow
  have d10 : w2.cell? ⟨g, (inW v.rm a 1).2.1 * 13 + 10, none⟩ = some (.int .i64 y.w.state) := own_cell nw_len (by omega) hrow hy (j := 10) (by omega)
  have f10 : ∀ j, w2.frozen? ⟨g, j, none⟩ = false := fun j => hrow.frozenAt j
  have HG := Lib.hid hg
  clear hy hyw hrow hg
  generalize (inW v.rm a 1).2.1 = i at HY HL d10 ⊢
  generalize (inW v.rm a 1).2.2 = wg at HYW HL ⊢
  subst h0
  go_wp2_with fail
  go_ret
  obtain ⟨r1, r2⟩ := wig_end H0.out H2.out (Rs.below HB.out) (fun _ k => k) HG.out HY.out (z := { y with w := { y.w with state := 2 } }) (j := 10) (vs := [.int .i64 2]) (by simp) rfl (H2.out.hw y (List.mem_of_getElem? HY.out)) (fun k hk => .inl (.inr ⟨y, List.mem_of_getElem? HY.out, hk⟩))
  rw [HL.out]
  refine ⟨rfl, _, ?_, r1, r2⟩
  rw [rm_setW, ← HYW.out]
 ·have HL : Hid (lendR v.rm a = (e, v.rm)) := Lib.hid (by unfold lendR; rw [if_pos (by rw [HE.out]; exact h0), HE.out])
  have h1 : (e != 0) = true := by simpa using h0
  go_wp2_with fail
  go_ret
  exact retO_no HL.out H2.out HB.out
end Go.Proofs.YtihhclhpjgeniaaGreatDoor
namespace Go.Proofs.YtihhclhpjgeniaaGreatDoor
open Go.RowKit Go.Sort
theorem occ_byte {b : UInt8} {s : List UInt8} {i : Nat} : Lib.occAt s [b] i = true ↔ s[i]? = some b := by
 unfold Lib.occAt
 rw [List.isPrefixOf_iff_prefix]
 constructor
 ·rintro ⟨q, hq⟩
  rw [← Nat.add_zero i, ← List.getElem?_drop, ← hq]
  rfl
 ·intro h
  obtain ⟨hi, h⟩ := List.getElem?_eq_some_iff.1 h
  exact ⟨s.drop (i + 1), by rw [List.drop_eq_getElem_cons hi, h]; rfl⟩
theorem index_byte {b : UInt8} {u r : List UInt8} (h : b ∉ u) : Lib.index (u ++ b :: r) [b] = u.length := Lib.index_hit (fun j hj => by
  cases hc : Lib.occAt (u ++ b :: r) [b] j with
  | false => rfl
  | true =>
   have h1 := occ_byte.1 hc
   rw [List.getElem?_append_left hj] at h1
   exact absurd (List.mem_of_getElem? h1) h) (by simp) (occ_byte.2 (by simp))
theorem splitK_hit {b : UInt8} {u r : List UInt8} (k : Nat) (h : b ∉ u) : Lib.splitK [b] 0 (k + 1) (u ++ b :: r) = u :: Lib.splitK [b] 0 k r := by
 have hi := index_byte (r := r) h
 have hm : ¬ (Lib.index (u ++ b :: r) [b] == -1) = true := fun e => by have := beq_iff_eq.1 e; omega
 rw [Lib.splitK, if_neg hm, hi]
 simp
theorem splitK_eq (b : UInt8) : ∀ (k : Nat) (l : List UInt8), l.count b = k → Lib.splitK [b] 0 k l = pcs b l
 | 0, l, h => by rw [pcs_one (List.count_eq_zero.1 h)]; rfl
 | k + 1, l, h => by
  have hm : b ∈ l := List.count_pos_iff.1 (by omega)
  obtain ⟨u, r, rfl, hu⟩ := List.eq_append_cons_of_mem hm
  rw [List.count_append, List.count_eq_zero.2 hu, List.count_cons_self] at h
  rw [splitK_hit k hu, pcs_hit hu, splitK_eq b k r (by omega)]
theorem split_any (b : UInt8) (s : List UInt8) (m : Int) (w : World) (hs : s.length ≤ 1000000) (hm : w.cell? ⟨1, 0, none⟩ = some (.int .i64 m)) :
  Calls Tryz.prog 90 #[.string (mkB s), .string ⟨#[b]⟩] w fun r w' => r = .returned (.slice (some ⟨w.heap.size, 0, none⟩) (pcs b s).length (pcs b s).length) ∧ w' = w.alloc (.cells (strL (pcs b s)).toArray 9) := by
 refine (Tryz.strings_Split (mkB s) ⟨#[b]⟩ m w (by rw [size_mk]; omega) hm (Nat.le_refl 1)).mono fun r w' ⟨h1, h2⟩ => ?_
 have hl := Lib.splitB_all ⟨#[b]⟩ (Nat.le_refl 1) 0 _ (mkB s) rfl
 have e : (Lib.splitB ⟨#[b]⟩ 0 (Lib.countB (mkB s) ⟨#[b]⟩) (mkB s)).map (·.data.toList) = pcs b s := by
  rw [Lib.splitB_data]
  exact splitK_eq b _ s (Lib.count_one b s).symm
 have e2 : (Lib.splitB ⟨#[b]⟩ 0 (Lib.countB (mkB s) ⟨#[b]⟩) (mkB s)).map Value.string = strL (pcs b s) := by
  rw [← e, strL, List.map_map]
  exact List.map_congr_left fun x _ => congrArg Value.string rfl
 have e3 : Lib.countB (mkB s) ⟨#[b]⟩ + 1 = (pcs b s).length := by rw [← hl, ← e, List.length_map]
 rw [h1, h2, e2, e3]
 exact ⟨rfl, rfl⟩
end Go.Proofs.YtihhclhpjgeniaaGreatDoor
