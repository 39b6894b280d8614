/- Merged texts: H4 H5 H6 Hx Hy Hz -/
import Derived.Test.YtihhclhpjgeniaaGreatDoorSB7
import Derived.Test.YtihhclhpjgeniaaGreatDoorSB18
namespace Go.Proofs.YtihhclhpjgeniaaGreatDoor
open Go.RowKit Go.Sort
set_option maxRecDepth 100000 in
set_option maxHeartbeats 1000000 in
theorem addK_any (q : Nat) (h : Lck) (m : Nat) (r s : Int) (w : World) (hk : LkP w q h) (hm : m < 25) (hh : h.In 100000000) (hr : 0 ≤ r ∧ r ≤ 100000000) (hs : 0 ≤ s ∧ s ≤ 100000000) :
  Calls Tryz.prog 268 #[.pointer (some ⟨q, 0, none⟩), .int .i64 m, .agg #[.int .i64 r, .int .i64 s]] w fun e w' =>
   e = .returned (.tuple #[]) ∧ LkP w' q (setH (setH h 0 m (h 0 m + r)) 1 m (h 1 m + s)) ∧ Kp (· = q) w w' := by
 have a0 := hh 0 m
 have a1 := hh 1 m
 have v1 : IntKind.i64.wrap (h 0 m + r) = h 0 m + r := IntWalk.i64_in _ (by omega)
 have v2 : IntKind.i64.wrap (h 1 m + s) = h 1 m + s := IntWalk.i64_in _ (by omega)
 have HK := Lib.hid hk
 have hq := hk.lt
 clear hk hh a0 a1 hr hs
 go_enter Tryz.func268, Tryz.ntmps268
 go_wp2_with fail
 have k2 := At.new w #[.int .i64 r, .int .i64 s] 215
 refine wp_gen (fun w1 => LkP w1 q h ∧ At w1 w.heap.size #[.int .i64 r, .int .i64 s] 215 ∧ Kp (· = q) w w1) ⟨HK.out.below (belowA _ _), k2, Kp.of (belowA _ _)⟩ ?_
 clear k2
 rintro w1 ⟨hk, k2, kp⟩
 have HK := Lib.hid hk
 have K2 := Lib.hid k2
 have KP := Lib.hid kp
 have hq1 : q ≠ w.heap.size := by omega
 have g0 := hk.rg0 hm
 have b0 : ∀ d os, (grow (redrawn w1 d) os).cell? ⟨w.heap.size, 0, none⟩ = some (.int .i64 r) := rg_cell (k2.cell 0)
 clear hk k2 kp
 refine wp_region_qt 12 mixed (by kernel_rfl) ?_
 simp only [List.take_succ_cons, List.take_zero, List.drop_succ_cons, List.drop_zero]
 repeat (go_big_quiet_step (fail))
 refine wpQuiet_nil ?_
 intro w2 hb2
 have HK2 := Lib.hid (LkP.below HK.out hb2)
 have K22 := Lib.hid (At.below K2.out hb2)
 have KP2 := Lib.hid (KP.out.grow hb2)
 clear hb2 g0 b0 HK K2 KP
 have f2 := HK2.out.fz
 have c2 := HK2.out.get0 hm
 go_wp2_with fail
 have HK3 := Lib.hid (HK2.out.put0 m (h 0 m + r))
 have K23 := Lib.hid (K22.out.far (p := ⟨q, m * 2, none⟩) (fun e => hq1 e.symm) (.int .i64 (h 0 m + r)))
 have KP3 := Lib.hid (KP2.out.set (p := ⟨q, m * 2, none⟩) (fun _ => rfl) (.int .i64 (h 0 m + r)))
 generalize w2.setCell ⟨q, m * 2, none⟩ (.int .i64 (h 0 m + r)) = w3 at HK3 K23 KP3 ⊢
 clear f2 c2 HK2 K22 KP2
 have e3 : setH h 0 m (h 0 m + r) 1 m = h 1 m := by simp [setH]
 have g1 := HK3.out.rg1 hm
 rw [e3] at g1
 have b1 : ∀ d os, (grow (redrawn w3 d) os).cell? ⟨w.heap.size, 1, none⟩ = some (.int .i64 s) := rg_cell (K23.out.cell 1)
 refine wp_region_qt 12 mixed (by kernel_rfl) ?_
 simp only [List.take_succ_cons, List.take_zero, List.drop_succ_cons, List.drop_zero]
 repeat (go_big_quiet_step (fail))
 refine wpQuiet_nil ?_
 intro w4 hb4
 have HK4 := Lib.hid (LkP.below HK3.out hb4)
 have KP4 := Lib.hid (KP3.out.grow hb4)
 clear hb4 g1 b1 HK3 K23 KP3 e3
 have f2 := HK4.out.fz
 have c2 := HK4.out.get1 hm
 go_wp2_with fail
 go_end0
 exact ⟨rfl, HK4.out.put1 m (h 1 m + s), KP4.out.set (p := ⟨q, m * 2 + 1, none⟩) (fun _ => rfl) (.int .i64 (h 1 m + s))⟩
end Go.Proofs.YtihhclhpjgeniaaGreatDoor
namespace Go.Proofs.YtihhclhpjgeniaaGreatDoor
open Go.RowKit Go.Sort
def lenV : Value → Nat
 | .slice _ m _ => m
 | _ => 0
theorem info3h : (Tryz.prog.info? 3).map (fun i => (i.zero, i.size, i.bytes)) = some (some (.int .i64 0), 1, 8) := by kernel_rfl
theorem ints_take (zs : List Int) (m : Nat) : (ints zs).take m = ints (zs.take m) := by simp [ints, List.map_take]
set_option maxRecDepth 100000 in
set_option maxHeartbeats 1000000 in
theorem trimmed_any (A : Option Addr) (n c : Nat) (zs : List Int) (w : World) (hl : Reads w w.heap.size 1 A n (ints zs)) (hnc : n ≤ c) (hn : n ≤ 1000) :
  Calls Tryz.prog 298 #[.slice A n c] w (RetRow 3 1 (trimL zs).length (ints (trimL zs)) w) := by
 have hlen := hl.1
 rw [ints_length] at hlen
 have l1 : n ≤ zs.length := by omega
 have l2 : zs.length ≤ n := by omega
 have HL := Lib.hid hl
 clear hl hlen
 go_enter Tryz.func298, Tryz.ntmps298
 go_wp2_with fail
 go_loopw [0] (fun l wr => ∃ m : Nat, m ≤ n ∧ l = .slice A m c ∧ wr = w ∧ trimL (zs.take m) = trimL zs) (fun l _ => lenV l)
 case atStart => exact ⟨n, by omega, rfl, rfl, by rw [List.take_of_length_le l2]⟩
 case round =>
  obtain ⟨m, hm, rfl, rfl, ht⟩ := hrel
  have HT := Lib.hid ht
  clear ht
  cases m with
  | zero =>
   have HRD : Hid (Reads wr wr.heap.size 1 A 0 (ints (trimL zs))) := Lib.hid (by rw [← HT.out]; have := HL.out.take (k := 0) (Nat.zero_le _); simpa [trimL, ints] using this)
   go_wp2_with (at_builtin; refine wpList_pushXm rfl _ _ 54 3 rfl Tryz.underlying54 info3h rfl (by decide) (by decide) wr.heap.size _ none 0 0 [] A 0 c (ints (trimL zs)) rfl (World.ownsRow_nil _ _ _ _) (Nat.le_refl _) rfl HRD.out (ints_one _) (by omega) ?_; intro A' c' w' hown' hgrow hloc)
   go_ret
   rw [List.nil_append, Nat.zero_add] at hown'
   have he : (trimL zs).length = 0 := by have := hown'.1; rw [ints_length, Nat.mul_one] at this; exact this
   rw [he]
   exact ⟨A', c', rfl, hown', (Below.refl _ _).grown hgrow (Nat.le_refl _) (fun k hk => by cases hk)⟩
  | succ k =>
   obtain ⟨ad, z, e1, _, hx0, c0⟩ := dsat HL.out (k := k) (by omega)
   have HX := Lib.hid hx0
   have v1 : IntKind.i64.wrap (((k + 1 : Nat) : Int) - 1) = ((k : Nat) : Int) := by rw [IntWalk.i64_in _ (by omega)]; omega
   clear hx0
   by_cases hz : z = 0
   ·subst hz
    have HT2 : Hid (trimL (zs.take k) = trimL zs) := Lib.hid (by rw [← HT.out, take_succ_of HX.out, trimL_zero])
    go_wp2_with fail
    exact ⟨⟨k, by omega, by rw [e1], trivial, HT2.out⟩, by simp [lenV]⟩
   ·have hz1 : (z == 0) = false := by simpa using hz
    have HE : Hid (trimL zs = zs.take (k + 1)) := Lib.hid (by rw [← HT.out, take_succ_of HX.out, trimL_snoc _ hz])
    have HRD : Hid (Reads wr wr.heap.size 1 A (k + 1) (ints (trimL zs))) := Lib.hid (by rw [HE.out]; have := HL.out.take (k := k + 1) hm; rwa [Nat.mul_one, ints_take] at this)
    go_wp2_with (at_builtin; refine wpList_pushXm rfl _ _ 54 3 rfl Tryz.underlying54 info3h rfl (by decide) (by decide) wr.heap.size _ none 0 0 [] A (k + 1) c (ints (trimL zs)) rfl (World.ownsRow_nil _ _ _ _) (Nat.le_refl _) rfl HRD.out (ints_one _) (by omega) ?_; intro A' c' w' hown' hgrow hloc)
    go_ret
    rw [List.nil_append, Nat.zero_add] at hown'
    have he : (trimL zs).length = k + 1 := by have := hown'.1; rw [ints_length, Nat.mul_one] at this; exact this
    rw [he]
    exact ⟨A', c', rfl, hown', (Below.refl _ _).grown hgrow (Nat.le_refl _) (fun k hk => by cases hk)⟩
end Go.Proofs.YtihhclhpjgeniaaGreatDoor
namespace Go.Proofs.YtihhclhpjgeniaaGreatDoor
open Go.RowKit Go.Sort
def maxL (l : List Int) : Int := l.foldl max 0
theorem maxL_snoc (l : List Int) (z : Int) : maxL (l ++ [z]) = max (maxL l) z := by simp [maxL]
theorem maxL_in {l : List Int} {M : Int} (hM : 0 ≤ M) (h : ∀ z ∈ l, 0 ≤ z ∧ z ≤ M) : 0 ≤ maxL l ∧ maxL l ≤ M := by
 refine snoc_ind (P := fun l => (∀ z ∈ l, 0 ≤ z ∧ z ≤ M) → 0 ≤ maxL l ∧ maxL l ≤ M) (fun _ => by simp [maxL, hM]) ?_ l h
 intro l x ih h
 rw [maxL_snoc]
 have := ih fun z hz => h z (List.mem_append_left _ hz)
 have := h x (by simp)
 omega
theorem maxL_ge {l : List Int} {z : Int} (h : z ∈ l) : z ≤ maxL l := by
 refine snoc_ind (P := fun l => z ∈ l → z ≤ maxL l) (fun h => by cases h) ?_ l h
 intro l x ih h
 rw [maxL_snoc]
 rcases List.mem_append.1 h with h1 | h1
 ·have := ih h1; omega
 ·have : z = x := by simpa using h1
  omega
def valN (b : Hr) : Int := if 1000000 < maxL (b.R ++ b.W) then 4 else 0
structure Hr.Wk (b : Hr) : Prop where
 r : b.R.length ≤ 24
 w : b.W.length ≤ 24
 br : ∀ z ∈ b.R, 0 ≤ z ∧ z ≤ 200000000
 bw : ∀ z ∈ b.W, 0 ≤ z ∧ z ≤ 200000000
theorem Hr.Ok.wk {b : Hr} (h : b.Ok) : b.Wk := ⟨h.r, h.w, fun z hz => by have := h.br z hz; omega, fun z hz => by have := h.bw z hz; omega⟩
theorem valN_ok {b : Hr} (h : b.Ok) : valN b = 0 := by
 have := maxL_in (M := 1000000) (by omega) (l := b.R ++ b.W) fun z hz => (List.mem_append.1 hz).elim (h.br z) (h.bw z)
 unfold valN
 rw [if_neg (by omega)]
def prt (b : Hr) : Nat → List Int
 | 0 => []
 | 1 => b.R
 | _ => b.R ++ b.W
theorem le_dec {n : Nat} (h : n ≤ 24) : decide ((24 : Int) < (n : Int)) = false := by simp; omega
set_option maxRecDepth 100000 in
set_option maxHeartbeats 1000000 in
theorem validH_any (A B : Option Addr) (n c m d : Nat) (b : Hr) (w : World) (hl : Reads w w.heap.size 1 A n (ints b.R)) (hm : Reads w w.heap.size 1 B m (ints b.W)) (hb : b.Wk) :
  Calls Tryz.prog 144 #[.agg #[.slice A n c, .slice B m d]] w fun r w' => r = .returned (.int .i64 (valN b)) ∧ Below w.heap.size w w' := by
 have hn1 := hl.1
 have hm1 := hm.1
 rw [ints_length, Nat.mul_one] at hn1 hm1
 have hr := hb.r
 have hw := hb.w
 have l1 : n ≤ b.R.length := by omega
 have l2 : b.R.length ≤ n := by omega
 have l3 : m ≤ b.W.length := by omega
 have l4 : b.W.length ≤ m := by omega
 have l5 : n ≤ 24 := by omega
 have l6 : m ≤ 24 := by omega
 have d1 := le_dec l5
 have d2 := le_dec l6
 have HL := Lib.hid hl
 have HM := Lib.hid hm
 have HB := Lib.hid hb
 clear hl hm hb hr hw hn1 hm1
 go_enter Tryz.func144, Tryz.ntmps144
 go_wp2_with fail
 have k1 := At.new (w.alloc (.cells #[.slice A n c, .slice B m d] 56)) #[.slice A n c, .slice B m d] 54
 rw [World.size_alloc] at k1
 refine wp_gen (fun w1 => At w1 (w.heap.size + 1) #[.slice A n c, .slice B m d] 54 ∧ Below w.heap.size w w1) ⟨k1, belowAA _ _ _⟩ ?_
 clear k1
 rintro w1 ⟨k1, hw⟩
 have HL := Lib.hid (HL.out.on hw)
 have HM := Lib.hid (HM.out.on hw)
 have HW := Lib.hid hw
 have K1 := Lib.hid k1
 clear hw k1
 go_loopw [3, 24] (fun mo i wr => ∃ k : Nat, k ≤ 2 ∧ i = .int .i64 k ∧ mo = .int .i64 (maxL (prt b k)) ∧ wr = w1) (fun _ i _ => 2 - (intOf i).toNat)
 case atStart => exact ⟨0, by omega, rfl, rfl, rfl⟩
 case round =>
  obtain ⟨k, hk, rfl, rfl, rfl⟩ := hrel
  have c0 := K1.out.cell 0
  have c1 := K1.out.cell 1
  have e0 : True := trivial
  have e1 : True := trivial
  rcases (show k = 0 ∨ k = 1 ∨ k = 2 by omega) with rfl | rfl | rfl
  ·go_wp2_with fail
   clear c0 c1 e0 e1
   go_loopw [3, 30] (fun mo i wx => ∃ j : Nat, j ≤ n ∧ i = .int .i64 j ∧ mo = .int .i64 (maxL (prt b 0 ++ b.R.take j)) ∧ wx = wr) (fun _ i _ => n - (intOf i).toNat)
   case atStart => exact ⟨0, by omega, rfl, by rw [List.take_zero, List.append_nil], rfl⟩
   case round =>
    obtain ⟨j, hj, rfl, rfl, rfl⟩ := hrel
    by_cases hlt : j < n
    ·obtain ⟨ad, z, e1, _, hx0, c0⟩ := dsat HL.out (k := j) (by omega)
     have hz := HB.out.br z (List.mem_of_getElem? hx0)
     have HX : Hid (max (maxL (prt b 0 ++ b.R.take j)) z = maxL (prt b 0 ++ b.R.take (j + 1))) := Lib.hid (by rw [take_succ_of hx0, ← List.append_assoc, maxL_snoc])
     have hz0 : decide (z < 0) = false := by simp; omega
     clear hx0
     generalize maxL (prt b 0 ++ b.R.take j) = mo at HX ⊢
     go_wp2_with fail
     go_roundw
     case rel => exact ⟨j + 1, by omega, by go_num, by rw [HX.out], trivial⟩
     case measure => simp [intOf]; omega
    ·have HE : Hid (maxL (prt b 0 ++ b.R.take j) = maxL (prt b 1)) := Lib.hid (by rw [List.take_of_length_le (by omega)]; rfl)
     rw [HE.out]
     go_wp2_with fail
     go_roundw
     case rel => exact ⟨1, by omega, rfl, rfl, trivial⟩
     case measure => simp [intOf]
  ·go_wp2_with fail
   clear c0 c1 e0 e1
   go_loopw [3, 30] (fun mo i wx => ∃ j : Nat, j ≤ m ∧ i = .int .i64 j ∧ mo = .int .i64 (maxL (prt b 1 ++ b.W.take j)) ∧ wx = wr) (fun _ i _ => m - (intOf i).toNat)
   case atStart => exact ⟨0, by omega, rfl, by rw [List.take_zero, List.append_nil], rfl⟩
   case round =>
    obtain ⟨j, hj, rfl, rfl, rfl⟩ := hrel
    by_cases hlt : j < m
    ·obtain ⟨ad, z, e1, _, hx0, c0⟩ := dsat HM.out (k := j) (by omega)
     have hz := HB.out.bw z (List.mem_of_getElem? hx0)
     have HX : Hid (max (maxL (prt b 1 ++ b.W.take j)) z = maxL (prt b 1 ++ b.W.take (j + 1))) := Lib.hid (by rw [take_succ_of hx0, ← List.append_assoc, maxL_snoc])
     have hz0 : decide (z < 0) = false := by simp; omega
     clear hx0
     generalize maxL (prt b 1 ++ b.W.take j) = mo at HX ⊢
     go_wp2_with fail
     go_roundw
     case rel => exact ⟨j + 1, by omega, by go_num, by rw [HX.out], trivial⟩
     case measure => simp [intOf]; omega
    ·have HE : Hid (maxL (prt b 1 ++ b.W.take j) = maxL (prt b 2)) := Lib.hid (by rw [List.take_of_length_le (by omega)]; rfl)
     rw [HE.out]
     go_wp2_with fail
     go_roundw
     case rel => exact ⟨2, by omega, rfl, rfl, trivial⟩
     case measure => simp [intOf]
  ·have HV : Hid (valN b = if 1000000 < maxL (prt b 2) then 4 else 0) := Lib.hid rfl
   clear c0 c1 e0 e1
   generalize maxL (prt b 2) = mo at HV ⊢
   by_cases h : 1000000 < mo
   ·have g : valN b = 4 := by rw [HV.out, if_pos h]
    have G := Lib.hid g
    clear g
    go_wp2_with fail
    go_ret
    exact ⟨by rw [G.out]; rfl, HW.out⟩
   ·have g : valN b = 0 := by rw [HV.out, if_neg h]
    have G := Lib.hid g
    clear g
    go_wp2_with fail
    go_ret
    exact ⟨by rw [G.out]; rfl, HW.out⟩
end Go.Proofs.YtihhclhpjgeniaaGreatDoor
namespace Go.Proofs.YtihhclhpjgeniaaGreatDoor
open Go.RowKit Go.Sort
structure Two (b : Nat) (u v : Value) (xs ys : List Int) (W : World) : Prop where
 r : W.ownsRow b 3 1 u xs.length (ints xs)
 s : W.ownsRow b 3 1 v ys.length (ints ys)
 ne : ∀ k, u.ownBlock = some k → v.ownBlock ≠ some k
 b : b ≤ W.heap.size
theorem Two.below {b : Nat} {u v : Value} {xs ys : List Int} {W W' : World} (h : Two b u v xs ys W) (hb : Below W.heap.size W W') : Two b u v xs ys W' :=
 ⟨row_on h.r hb, row_on h.s hb, h.ne, Nat.le_trans h.b hb.size⟩
theorem Two.nil (b : Nat) (W : World) (hb : b ≤ W.heap.size) : Two b (.slice none 0 0) (.slice none 0 0) [] [] W := ⟨World.ownsRow_nil _ _ _ _, World.ownsRow_nil _ _ _ _, fun k h => by simp [Value.ownBlock] at h, hb⟩
theorem own_lt {W : World} {b : Nat} {u : Value} {n : Nat} {xs : List Value} (h : W.ownsRow b 3 1 u n xs) : ∀ k, u.ownBlock = some k → k < W.heap.size := fun k hk => (h.lt k hk).2
theorem loc_block {A A' : Option Addr} {n n' c c' : Nat} {W : World} (h : A' = A ∨ ∀ p, A' = some p → W.heap.size ≤ p.block) :
  ∀ k, (Value.slice A' n' c').ownBlock = some k → (Value.slice A n c).ownBlock = some k ∨ W.heap.size ≤ k := by
 intro k hk
 rcases h with rfl | h
 ·refine .inl ?_
  cases A' with
  | none => simp [Value.ownBlock] at hk
  | some p => simpa [Value.ownBlock] using hk
 ·cases A' with
  | none => simp [Value.ownBlock] at hk
  | some p =>
   have : p.block = k := by simpa [Value.ownBlock] using hk
   exact .inr (this ▸ h p rfl)
theorem Two.one {b : Nat} {A A' : Option Addr} {c c' n : Nat} {v : Value} {xs ys : List Int} {x : Int} {W W' : World} (h : Two b (.slice A n c) v xs ys W) (hn : n = xs.length)
  (ho : W'.ownsRow b 3 1 (.slice A' (n + 1) c') (n + 1) (ints xs ++ [.int .i64 x])) (hg : W.grownBy W' (Value.slice A n c).ownBlock) (hl : A' = A ∨ ∀ p, A' = some p → W.heap.size ≤ p.block) :
  Two b (.slice A' (n + 1) c') v (xs ++ [x]) ys W' := by
 refine ⟨?_, ?_, ?_, Nat.le_trans h.b hg.size⟩
 ·rw [ints_append, List.length_append, ← hn]; exact ho
 ·refine h.s.kept hg ?_
  cases hv : v.ownBlock with
  | none => exact .inl rfl
  | some k => exact .inr fun e => h.ne k e.symm hv
 ·intro k hk hv
  rcases loc_block (n := n) (c := c) hl k hk with h1 | h1
  ·exact h.ne k h1 hv
  ·have := own_lt h.s k hv; omega
theorem Two.two {b : Nat} {A A' : Option Addr} {c c' n : Nat} {u : Value} {xs ys : List Int} {x : Int} {W W' : World} (h : Two b u (.slice A n c) xs ys W) (hn : n = ys.length)
  (ho : W'.ownsRow b 3 1 (.slice A' (n + 1) c') (n + 1) (ints ys ++ [.int .i64 x])) (hg : W.grownBy W' (Value.slice A n c).ownBlock) (hl : A' = A ∨ ∀ p, A' = some p → W.heap.size ≤ p.block) :
  Two b u (.slice A' (n + 1) c') xs (ys ++ [x]) W' := by
 have h' : Two b (.slice A n c) u ys xs W := ⟨h.s, h.r, fun k hk hu => h.ne k hu hk, h.b⟩
 have := h'.one hn ho hg hl
 exact ⟨this.s, this.r, fun k hk hu => this.ne k hu hk, this.b⟩
theorem At.grown {W W' : World} {q : Nat} {cs : Array Value} {t : TypeId} {row : Option Nat} (h : At W q cs t) (hg : W.grownBy W' row) (hne : row ≠ some q) : At W' q cs t := (hg.block q h.lt (fun e => hne e.symm)).trans h
end Go.Proofs.YtihhclhpjgeniaaGreatDoor
namespace Go.Proofs.YtihhclhpjgeniaaGreatDoor
open Go.RowKit Go.Sort
structure Tmp (M : Nat) (z : Int) (u v : Value) (W : World) : Prop where
 at' : At W M #[.int .i64 z] 3
 nu : u.ownBlock ≠ some M
 nv : v.ownBlock ≠ some M
theorem Tmp.below {M : Nat} {z : Int} {u v : Value} {W W' : World} (h : Tmp M z u v W) (hb : Below W.heap.size W W') : Tmp M z u v W' := ⟨At.below h.at' hb, h.nu, h.nv⟩
theorem Tmp.reads {M : Nat} {z : Int} {u v : Value} {W : World} (h : Tmp M z u v W) : Reads W W.heap.size 1 (some ⟨M, 0, none⟩) 1 (ints [z]) := by
 refine ⟨rfl, fun _ => ⟨_, rfl, At.lt h.at', fun j u hu => ?_⟩⟩
 have hj : j = 0 := by
  have := (List.getElem?_eq_some_iff.1 hu).1
  simp [ints] at this
  exact this
 subst hj
 rw [show (⟨M, 0, none⟩ : Addr).add 0 = ⟨M, 0, none⟩ from rfl, At.cell h.at' 0]
 exact hu
theorem Tmp.one {M n c n' c' : Nat} {z : Int} {A A' : Option Addr} {v : Value} {W W' : World} (h : Tmp M z (.slice A n c) v W) (hg : W.grownBy W' (Value.slice A n c).ownBlock) (hl : A' = A ∨ ∀ p, A' = some p → W.heap.size ≤ p.block) :
  Tmp M z (.slice A' n' c') v W' :=
 ⟨At.grown h.at' hg h.nu, fun e => (loc_block (n := n) (c := c) hl M e).elim h.nu fun k => by have := At.lt h.at'; omega, h.nv⟩
structure TS (w0 : World) (N : Nat) (h : Lck) (x y : Int) (u v : Value) (xs ys : List Int) (W : World) : Prop where
 two : Two (w0.heap.size + 2) u v xs ys W
 lk : LkP W w0.heap.size h
 rs : At W (w0.heap.size + 1) #[.slice none 0 0, .slice none 0 0] 56
 bl : Below w0.heap.size w0 W
 nn : At W N #[.int .i64 x, .int .i64 y] 215
 nu : u.ownBlock ≠ some N
 nv : v.ownBlock ≠ some N
section
variable {w0 W W' : World} {N : Nat} {h : Lck} {x y : Int} {u v : Value} {xs ys : List Int}
theorem TS.below (t : TS w0 N h x y u v xs ys W) (hb : Below W.heap.size W W') : TS w0 N h x y u v xs ys W' :=
 ⟨t.two.below hb, t.lk.below hb, t.rs.below hb, t.bl.trans (hb.mono t.bl.size), t.nn.below hb, t.nu, t.nv⟩
theorem TS.new (t : TS w0 N h x y u v xs ys W) (z : Int) : TS w0 N h x y u v xs ys (W.alloc (.cells #[.int .i64 z] 3)) ∧ Tmp W.heap.size z u v (W.alloc (.cells #[.int .i64 z] 3)) :=
 ⟨t.below (belowA _ _), At.new _ _ _, fun e => by have := own_lt t.two.r _ e; omega, fun e => by have := own_lt t.two.s _ e; omega⟩
theorem TS.one {A A' : Option Addr} {n c c' : Nat} {z : Int} (t : TS w0 N h x y (.slice A n c) v xs ys W) (hn : n = xs.length)
  (ho : W'.ownsRow (w0.heap.size + 2) 3 1 (.slice A' (n + 1) c') (n + 1) (ints xs ++ ints [z])) (hg : W.grownBy W' (Value.slice A n c).ownBlock) (hl : A' = A ∨ ∀ p, A' = some p → W.heap.size ≤ p.block) :
  TS w0 N h x y (.slice A' (n + 1) c') v (xs ++ [z]) ys W' := by
 have hb : ∀ k, (Value.slice A n c).ownBlock = some k → w0.heap.size + 2 ≤ k := fun k hk => (t.two.r.lt k hk).1
 refine ⟨t.two.one hn ho hg hl, At.grown t.lk hg (fun e => by have := hb _ e; omega), At.grown t.rs hg (fun e => by have := hb _ e; omega), t.bl.grown hg t.bl.size (fun k hk => by have := hb k hk; omega), At.grown t.nn hg t.nu, fun e => (loc_block (n := n) (c := c) hl N e).elim t.nu fun k => by have := At.lt t.nn; omega, t.nv⟩
theorem TS.two' {A A' : Option Addr} {n c c' : Nat} {z : Int} (t : TS w0 N h x y u (.slice A n c) xs ys W) (hn : n = ys.length)
  (ho : W'.ownsRow (w0.heap.size + 2) 3 1 (.slice A' (n + 1) c') (n + 1) (ints ys ++ ints [z])) (hg : W.grownBy W' (Value.slice A n c).ownBlock) (hl : A' = A ∨ ∀ p, A' = some p → W.heap.size ≤ p.block) :
  TS w0 N h x y u (.slice A' (n + 1) c') xs (ys ++ [z]) W' := by
 have hb : ∀ k, (Value.slice A n c).ownBlock = some k → w0.heap.size + 2 ≤ k := fun k hk => (t.two.s.lt k hk).1
 refine ⟨t.two.two hn ho hg hl, At.grown t.lk hg (fun e => by have := hb _ e; omega), At.grown t.rs hg (fun e => by have := hb _ e; omega), t.bl.grown hg t.bl.size (fun k hk => by have := hb k hk; omega), At.grown t.nn hg t.nv, t.nu, fun e => (loc_block (n := n) (c := c) hl N e).elim t.nv fun k => by have := At.lt t.nn; omega⟩
end
end Go.Proofs.YtihhclhpjgeniaaGreatDoor
namespace Go.Proofs.YtihhclhpjgeniaaGreatDoor
open Go.RowKit Go.Sort
theorem maxL_mem (l : List Int) : maxL l = 0 ∨ maxL l ∈ l := by
 refine snoc_ind (P := fun l => maxL l = 0 ∨ maxL l ∈ l) (.inl rfl) ?_ l
 intro l x ih
 rw [maxL_snoc]
 rcases Int.le_total (maxL l) x with h | h
 ·exact .inr (by rw [Int.max_eq_right h]; simp)
 ·rw [Int.max_eq_left h]
  exact ih.imp id fun k => List.mem_append_left _ k
theorem at1_mem {l : List Int} {n : Nat} (h : at1 l n ≠ 0) : at1 l n ∈ l := by
 cases n with
 | zero => exact absurd rfl h
 | succ n =>
  change l.getD n 0 ≠ 0 at h
  show l.getD n 0 ∈ l
  rw [List.getD_eq_getElem?_getD] at h ⊢
  rcases Nat.lt_or_ge n l.length with hn | hn
  ·rw [List.getElem?_eq_getElem hn]; exact List.getElem_mem hn
  ·rw [List.getElem?_eq_none hn] at h; exact absurd rfl h
theorem fin_val (h : Lck) : valN (tieH h) = (fin h).1 := by
 unfold valN fin
 by_cases hb : big h = true
 ·rw [if_pos hb, if_pos]
  simp only [big, List.any_eq_true, List.mem_range, Bool.or_eq_true, decide_eq_true_eq] at hb
  obtain ⟨i, hi, h1⟩ := hb
  rcases h1 with h1 | h1
  ·have e : at1 (trimL (lens h 0)) (i + 1) = h 0 (i + 1) := by rw [at1_trim, at1_lens h 0 (by omega) (by omega)]
   have := at1_mem (l := trimL (lens h 0)) (n := i + 1) (by rw [e]; omega)
   rw [e] at this
   have := maxL_ge (l := (tieH h).R ++ (tieH h).W) (List.mem_append_left _ this)
   omega
  ·have e : at1 (trimL (lens h 1)) (i + 1) = h 1 (i + 1) := by rw [at1_trim, at1_lens h 1 (by omega) (by omega)]
   have := at1_mem (l := trimL (lens h 1)) (n := i + 1) (by rw [e]; omega)
   rw [e] at this
   have := maxL_ge (l := (tieH h).R ++ (tieH h).W) (List.mem_append_right _ this)
   omega
 ·rw [if_neg hb, if_neg]
  intro hm
  rcases maxL_mem ((tieH h).R ++ (tieH h).W) with h0 | h0
  ·omega
  ·have hb' : big h = false := by simpa using hb
   rcases List.mem_append.1 h0 with h1 | h1
   ·obtain ⟨n, a, b, e⟩ := lens_mem (trimL_mem h1)
    have := big_no hb' 0 (by omega) n a b
    omega
   ·obtain ⟨n, a, b, e⟩ := lens_mem (trimL_mem h1)
    have := big_no hb' 1 (by omega) n a b
    omega
end Go.Proofs.YtihhclhpjgeniaaGreatDoor
