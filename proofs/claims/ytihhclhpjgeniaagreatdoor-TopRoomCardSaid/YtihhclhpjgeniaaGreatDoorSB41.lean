/- Merged texts: Yh Yi Yj Yk Yl Ym -/
import Derived.Test.YtihhclhpjgeniaaGreatDoorSB40
namespace Go.Proofs.YtihhclhpjgeniaaGreatDoor
def knO : List (List UInt8) := [[98, 117, 121, 32, 97, 32, 49, 48, 32, 49, 48, 48, 32, 50, 52, 48],
 [119, 105, 103, 32, 119, 32, 97, 32, 54, 48, 32, 56],
 [107, 110, 111, 116, 32, 119, 32, 54, 48],
 [108, 101, 110, 100, 32, 119],
 [98, 97, 99, 107, 32, 119, 32, 53]]
def knS : List UInt8 := [115, 101, 108, 108, 32, 119, 32, 50, 48, 48, 48]
def knM : List UInt8 := [109, 101, 110, 100, 32, 119, 32, 97, 32, 53]
theorem cout_skip {y h : Lck} {i : Nat} (hh : ∀ k, k < 2 → ∀ n, 0 ≤ h k n) (hy : y 0 (i + 1) + y 1 (i + 1) = 0) : cout y (i + 1) h = cout y i h := by
 rw [show cout y (i + 1) h = if 0 < (cin (24 - i) (i + 1) h (y 0 (i + 1) + y 1 (i + 1))).2 then none else cout y i (cin (24 - i) (i + 1) h (y 0 (i + 1) + y 1 (i + 1))).1 from rfl, hy, cin_zero _ _ _ hh]
 rfl
theorem cout_skips {y h : Lck} (hh : ∀ k, k < 2 → ∀ n, 0 ≤ h k n) (i : Nat) : ∀ d, (∀ j, i ≤ j → j < i + d → y 0 (j + 1) + y 1 (j + 1) = 0) → cout y (i + d) h = cout y i h
 | 0, _ => rfl
 | d + 1, hy => by rw [show i + (d + 1) = i + d + 1 from rfl, cout_skip hh (hy (i + d) (by omega) (by omega)), cout_skips hh i d fun j h1 h2 => hy j h1 (by omega)]
theorem cin_skip {h : Lck} {c j : Nat} {need : Int} (hh : ∀ k, k < 2 → ∀ n, 0 ≤ h k n) (h0 : h 0 j + h 1 j = 0) (hn : 0 ≤ need) : cin (c + 1) j h need = cin c (j + 1) h need := by
 rw [show cin (c + 1) j h need = cin c (j + 1) (takeL h j (tk h (min need (h 0 j + h 1 j)) j)) (need - min need (h 0 j + h 1 j)) from rfl, h0, show min need 0 = 0 by omega, takeL_zero hh, Int.sub_zero]
theorem ofH_op {n : Int} {L : Nat} (hL : 1 ≤ L) (hn : n ≠ 0) (k m : Nat) : (ofH n L).op k m = if k = 0 ∧ m = L then n else 0 := by
 rw [show ofH n L = ⟨List.replicate (L - 1) 0 ++ [n], []⟩ by rw [ofH, if_neg hn]; rfl]
 unfold Hr.op
 rcases Nat.lt_or_ge 1 k with hk | hk
 ·rw [if_neg (by omega), if_neg (by omega), if_neg (by omega)]
 rcases (show k = 0 ∨ k = 1 by omega) with rfl | rfl
 ·rw [if_pos rfl]
  cases m with
  | zero => rw [if_neg (by omega)]; rfl
  | succ m =>
   show (List.replicate (L - 1) 0 ++ [n]).getD m 0 = _
   rw [List.getD_eq_getElem?_getD]
   rcases Nat.lt_trichotomy m (L - 1) with h | h | h
   ·rw [List.getElem?_append_left (by simpa using h), List.getElem?_replicate, if_pos h, if_neg (by omega)]; rfl
   ·subst h
    rw [List.getElem?_append_right (by simp)]
    simp [show L - 1 + 1 = L by omega]
   ·rw [List.getElem?_eq_none (by simp; omega), if_neg (by omega)]; rfl
 ·rw [if_neg (by omega), if_pos rfl, if_neg (by omega)]
  cases m <;> rfl
theorem ofH_in {n : Int} {L : Nat} (hL : 1 ≤ L) (hn : 0 < n) : ∀ k, k < 2 → ∀ m, 0 ≤ (ofH n L).op k m := fun k _ m => by
 rw [ofH_op hL (by omega)]; split <;> omega
theorem cut_one {N n : Int} {L K : Nat} (hL : 1 ≤ L) (hK : L ≤ K) (hK2 : K ≤ 24) (h1 : 0 < n) (h2 : n < N) : cutH (ofH N K) (ofH n L) = (0, tieH (ofH (N - n) K).op) := by
 have hN : 0 < N := by omega
 have hh := ofH_in (L := K) (by omega) hN
 have hs : ∀ d, L + d ≤ K → cin (25 - L) L (ofH N K).op n = cin (25 - L - d) (L + d) (ofH N K).op n := by
  intro d
  induction d with
  | zero => intro _; rfl
  | succ d ih =>
   intro hd
   rw [ih (by omega), show 25 - L - d = 25 - L - (d + 1) + 1 by omega, cin_skip hh (by rw [ofH_op (by omega) (by omega), ofH_op (by omega) (by omega), if_neg (by omega), if_neg (by omega)]; rfl) (by omega)]
   rfl
 have ha : (ofH N K).op 0 K = N := by rw [ofH_op (by omega) (by omega), if_pos ⟨rfl, rfl⟩]
 have hb : (ofH N K).op 1 K = 0 := by rw [ofH_op (by omega) (by omega), if_neg (by omega)]
 have ht : takeL (ofH N K).op K (tk (ofH N K).op n K) = (ofH (N - n) K).op := by
  funext k m
  rw [ofH_op (by omega) (by omega)]
  unfold takeL tk
  rw [ha, ofH_op (by omega) (by omega)]
  split
  ·rename_i e; subst e
   rcases Nat.eq_zero_or_pos k with rfl | hk
   ·rw [if_pos ⟨rfl, rfl⟩, if_pos rfl, if_pos ⟨rfl, rfl⟩]; omega
   ·rw [if_neg (by omega), if_neg (by omega), if_neg (by omega)]; omega
  ·rw [if_neg (by omega), if_neg (by omega)]
 have hc : cin (25 - L) L (ofH N K).op n = ((ofH (N - n) K).op, 0) := by
  rw [hs (K - L) (by omega), show L + (K - L) = K by omega, show 25 - L - (K - L) = 24 - K + 1 by omega]
  show cin (24 - K) (K + 1) (takeL (ofH N K).op K (tk (ofH N K).op (min n ((ofH N K).op 0 K + (ofH N K).op 1 K)) K)) (n - min n ((ofH N K).op 0 K + (ofH N K).op 1 K)) = _
  rw [ha, hb, show min n (N + 0) = n by omega, ht, Int.sub_self, cin_zero _ _ _ (ofH_in (by omega) (by omega))]
 have hco : cout (ofH n L).op 24 (ofH N K).op = some (ofH (N - n) K).op := by
  have e1 := cout_skips (y := (ofH n L).op) hh L (24 - L) fun j h3 h4 => by rw [ofH_op hL (by omega), ofH_op hL (by omega), if_neg (by omega), if_neg (by omega)]; rfl
  rw [show L + (24 - L) = 24 by omega] at e1
  rw [e1, show cout (ofH n L).op L (ofH N K).op = cout (ofH n L).op (L - 1 + 1) (ofH N K).op by rw [show L - 1 + 1 = L by omega]]
  rw [show cout (ofH n L).op (L - 1 + 1) (ofH N K).op = if 0 < (cin (24 - (L - 1)) (L - 1 + 1) (ofH N K).op ((ofH n L).op 0 (L - 1 + 1) + (ofH n L).op 1 (L - 1 + 1))).2 then none else cout (ofH n L).op (L - 1) (cin (24 - (L - 1)) (L - 1 + 1) (ofH N K).op ((ofH n L).op 0 (L - 1 + 1) + (ofH n L).op 1 (L - 1 + 1))).1 from rfl]
  have hy : (ofH n L).op 0 L + (ofH n L).op 1 L = n := by rw [ofH_op hL (by omega), if_pos ⟨rfl, rfl⟩, ofH_op hL (by omega), if_neg (by omega), Int.add_zero]
  rw [show L - 1 + 1 = L by omega, show 24 - (L - 1) = 25 - L by omega, hy, hc]
  have e2 := cout_skips (y := (ofH n L).op) (ofH_in (n := N - n) (L := K) (by omega) (by omega)) 0 (L - 1) fun j h3 h4 => by rw [ofH_op hL (by omega), ofH_op hL (by omega), if_neg (by omega), if_neg (by omega)]; rfl
  rw [Nat.zero_add] at e2
  show (if 0 < (0:Int) then none else cout (ofH n L).op (L - 1) (ofH (N - n) K).op) = _
  rw [if_neg (by decide), e2]
  rfl
 unfold cutH
 rw [hco]
def kn1 : Rm := ⟨[([97], ofH 100 10)], [], [[97]], 100, 0, -240, [knO.getD 0 []]⟩
def knW (done shed state price : Int) (card : List Ent) : Wg := { newW [119] [97] 60 8 with done := done, shed := shed, state := state, price := price, card := card }
def knR (h : Hr) (w : Wg) (lost cash : Int) (l : List (List UInt8)) : Rm := ⟨[([97], h)], [w], [[97], [119]], 100, lost, cash, l⟩
set_option maxRecDepth 1000000
theorem kn_1 : doR (knO.getD 0 []) rm0 = (0, kn1) := by kernel_rfl
theorem kn_h : tieH (ofH 40 10).op = ofH 40 10 := by kernel_rfl
theorem kn_h2 : tieH (ofH 35 10).op = ofH 35 10 := by kernel_rfl
theorem cut_1 : cutH (ofH 100 10) (ofH 60 8) = (0, ofH 40 10) := by
 have := cut_one (N := 100) (n := 60) (L := 8) (K := 10) (by decide) (by decide) (by decide) (by decide) (by decide)
 rw [← kn_h]; exact this
theorem cut_2 : cutH (ofH 40 10) (ofH 5 8) = (0, ofH 35 10) := by
 have := cut_one (N := 40) (n := 5) (L := 8) (K := 10) (by decide) (by decide) (by decide) (by decide) (by decide)
 rw [← kn_h2]; exact this
theorem begin_of {r : Rm} {n b : List UInt8} {count len : Int} {i : Nat} {h : Hr} (h1 : r.fresh n = true) (h2 : r.bun b = some i) (h3 : ¬ (len < 1 ∨ 24 < len ∨ count = 0)) (h4 : ¬ 12 ≤ r.ws.length) (h5 : cutH (r.hr i) (ofH count len) = (0, h)) :
  beginR r n b count len = (0, { r.setH i h with used := r.used ++ [n], ws := r.ws ++ [newW n b count len] }) := by
 unfold beginR
 rw [h1, if_neg (by decide), h2]
 simp only [if_neg h3, if_neg h4, h5, ne_eq, not_true_eq_false, if_false]
theorem mend_of {r : Rm} {a b : List UInt8} {n : Int} {i j : Nat} {h : Hr} {w : Wg} (h0 : inW r a 1 = (0, j, w)) (h2 : r.bun b = some i) (h3 : ¬ w.shed < n) (h5 : cutH (r.hr i) (ofH n w.len) = (0, h)) (h6 : addE w.card 0 (mkB (tMe ++ Lib.itoa n)) = 0) :
  mendR r a b n = (0, (r.setH i h).setW j { w with shed := w.shed - n, card := addR w.card 0 (mkB (tMe ++ Lib.itoa n)) }) := by
 unfold mendR
 rw [h0, h2]
 simp only [if_neg h3, h5, h6, ne_eq, not_true_eq_false, if_false]
theorem do_of {r r' : Rm} {t : List UInt8} {o : Ordr} (h1 : parseO t = some o) (h2 : ¬ 300 ≤ r.day.length) (h3 : doO r o = (0, r')) : doR t r = (0, { r' with day := r'.day ++ [t] }) := by
 unfold doR
 simp only [h1, if_neg h2, h3, ne_eq, not_true_eq_false, if_false]
theorem kn_2 : doR (knO.getD 1 []) kn1 = (0, knR (ofH 40 10) (knW 0 0 0 0 []) 0 (-240) (knO.take 2)) := by
 refine do_of (o := ⟨6, [[119], [97]], [], [60, 8]⟩) (r' := knR (ofH 40 10) (knW 0 0 0 0 []) 0 (-240) (knO.take 1)) (by kernel_rfl) (by decide) ?_
 show beginR kn1 [119] [97] 60 8 = _
 rw [begin_of (r := kn1) (n := [119]) (b := [97]) (count := 60) (len := 8) (i := 0) (h := ofH 40 10) (by kernel_rfl) (by kernel_rfl) (by decide) (by decide) cut_1]
 kernel_rfl
theorem kn_3 : doR (knO.getD 2 []) (knR (ofH 40 10) (knW 0 0 0 0 []) 0 (-240) (knO.take 2)) = (0, knR (ofH 40 10) (knW 60 0 1 0 []) 0 (-240) (knO.take 3)) := by kernel_rfl
theorem kn_4 : doR (knO.getD 3 []) (knR (ofH 40 10) (knW 60 0 1 0 []) 0 (-240) (knO.take 3)) = (0, knR (ofH 40 10) (knW 60 0 2 0 []) 0 (-240) (knO.take 4)) := by kernel_rfl
def knC1 : List Ent := addR [] 1 (mkB (tSh ++ Lib.itoa 5))
theorem kn_5 : doR (knO.getD 4 []) (knR (ofH 40 10) (knW 60 0 2 0 []) 0 (-240) (knO.take 4)) = (0, knR (ofH 40 10) (knW 60 5 1 0 knC1) 5 (-240) knO) := by kernel_rfl
theorem kn_6 : doR knS (knR (ofH 40 10) (knW 60 5 1 0 knC1) 5 (-240) knO) = (13, knR (ofH 40 10) (knW 60 5 1 0 knC1) 5 (-240) knO) := by kernel_rfl
def knC2 : List Ent := addR knC1 0 (mkB (tMe ++ Lib.itoa 5))
theorem kn_7 : doR knM (knR (ofH 40 10) (knW 60 5 1 0 knC1) 5 (-240) knO) = (0, knR (ofH 35 10) (knW 60 0 1 0 knC2) 5 (-240) (knO ++ [knM])) := by
 refine do_of (o := ⟨16, [[119], [97]], [], [5]⟩) (r' := knR (ofH 35 10) (knW 60 0 1 0 knC2) 5 (-240) knO) (by kernel_rfl) (by decide) ?_
 show mendR _ [119] [97] 5 = _
 rw [mend_of (r := knR (ofH 40 10) (knW 60 5 1 0 knC1) 5 (-240) knO) (a := [119]) (b := [97]) (n := 5) (i := 0) (j := 0) (w := knW 60 5 1 0 knC1) (h := ofH 35 10) (by kernel_rfl) (by kernel_rfl) (by decide) cut_2 (by kernel_rfl)]
 kernel_rfl
theorem kn_8 : doR knS (knR (ofH 35 10) (knW 60 0 1 0 knC2) 5 (-240) (knO ++ [knM])) = (0, knR (ofH 35 10) (knW 60 0 3 2000 knC2) 5 1760 (knO ++ [knM] ++ [knS])) := by kernel_rfl
end Go.Proofs.YtihhclhpjgeniaaGreatDoor
namespace Go.Proofs.YtihhclhpjgeniaaGreatDoor
open Go.RowKit Go.Sort Go.MuLone
theorem Rs.out {v v' : RV} {p q : Nat} {w w' : World} (h : Rs p v w v' w') (hq : q < w.heap.size) (hn : ∀ k, v.F p k ∨ v.C k → k ≠ q) : ∀ k, v'.F p k ∨ v'.C k → k ≠ q := fun k hk e => by
 rcases hk with hk | hk
 ·rcases h.f k hk with h1 | h1
  ·exact hn k (.inl h1) e
  ·omega
 ·rcases h.c k hk with h1 | h1
  ·exact hn k (.inr h1) e
  ·omega
def knAt (j : Nat) : List UInt8 := knO.getD j []
theorem kn_run : ∀ j, j < 5 → doR (knAt j) (runR (knO.take j) rm0) = (0, runR (knO.take (j + 1)) rm0) := by
 have e1 : runR (knO.take 1) rm0 = kn1 := congrArg Prod.snd kn_1
 have e2 : runR (knO.take 2) rm0 = knR (ofH 40 10) (knW 0 0 0 0 []) 0 (-240) (knO.take 2) := by
  rw [show runR (knO.take 2) rm0 = (doR (knAt 1) (runR (knO.take 1) rm0)).2 from rfl, e1, show knAt 1 = knO.getD 1 [] from rfl, kn_2]
 have e3 : runR (knO.take 3) rm0 = knR (ofH 40 10) (knW 60 0 1 0 []) 0 (-240) (knO.take 3) := by
  rw [show runR (knO.take 3) rm0 = (doR (knAt 2) (runR (knO.take 2) rm0)).2 from rfl, e2, show knAt 2 = knO.getD 2 [] from rfl, kn_3]
 have e4 : runR (knO.take 4) rm0 = knR (ofH 40 10) (knW 60 0 2 0 []) 0 (-240) (knO.take 4) := by
  rw [show runR (knO.take 4) rm0 = (doR (knAt 3) (runR (knO.take 3) rm0)).2 from rfl, e3, show knAt 3 = knO.getD 3 [] from rfl, kn_4]
 have e5 : runR (knO.take 5) rm0 = knR (ofH 40 10) (knW 60 5 1 0 knC1) 5 (-240) knO := by
  rw [show runR (knO.take 5) rm0 = (doR (knAt 4) (runR (knO.take 4) rm0)).2 from rfl, e4, show knAt 4 = knO.getD 4 [] from rfl, kn_5]
 intro j hj
 match j, hj with
 | 0, _ => rw [e1]; exact kn_1
 | 1, _ => rw [e1, e2]; exact kn_2
 | 2, _ => rw [e2, e3]; exact kn_3
 | 3, _ => rw [e3, e4]; exact kn_4
 | 4, _ => rw [e4, e5]; exact kn_5
theorem kn_all : runR (knO.take 5) rm0 = knR (ofH 40 10) (knW 60 5 1 0 knC1) 5 (-240) knO := by
 have := kn_run 4 (by decide)
 have e4 := kn_run 3 (by decide)
 have e3 := kn_run 2 (by decide)
 have e2 := kn_run 1 (by decide)
 have e1 := kn_run 0 (by decide)
 rw [show knO.take 0 = [] from rfl, show runR [] rm0 = rm0 from rfl, show knAt 0 = knO.getD 0 [] from rfl, kn_1] at e1
 rw [← (Prod.mk.inj e1).2, show knAt 1 = knO.getD 1 [] from rfl, kn_2] at e2
 rw [← (Prod.mk.inj e2).2, show knAt 2 = knO.getD 2 [] from rfl, kn_3] at e3
 rw [← (Prod.mk.inj e3).2, show knAt 3 = knO.getD 3 [] from rfl, kn_4] at e4
 rw [← (Prod.mk.inj e4).2, show knAt 4 = knO.getD 4 [] from rfl, kn_5] at this
 exact (Prod.mk.inj this).2.symm
def knRow : Array Value := #[.string { data := #[98, 117, 121, 32, 97, 32, 49, 48, 32, 49, 48, 48, 32, 50, 52, 48] }, .string { data := #[119, 105, 103, 32, 119, 32, 97, 32, 54, 48, 32, 56] }, .string { data := #[107, 110, 111, 116, 32, 119, 32, 54, 48] }, .string { data := #[108, 101, 110, 100, 32, 119] }, .string { data := #[98, 97, 99, 107, 32, 119, 32, 53] }]
theorem kn_row : ∀ j, j < 5 → knRow[j]? = some (.string (mkB (knAt j))) := by
 intro j hj
 match j, hj with
 | 0, _ => rfl
 | 1, _ => rfl
 | 2, _ => rfl
 | 3, _ => rfl
 | 4, _ => rfl
theorem kn_strS : ({ data := #[115, 101, 108, 108, 32, 119, 32, 50, 48, 48, 48] } : ByteArray) = mkB knS := rfl
theorem kn_strM : ({ data := #[109, 101, 110, 100, 32, 119, 32, 97, 32, 53] } : ByteArray) = mkB knM := rfl
theorem doR_good {r : Rm} {t : List UInt8} (h : r.Good) : (doR t r).2.Good := good_do h t
theorem bun_knR {h : Hr} {w : Wg} {lost cash : Int} {l : List (List UInt8)} : (knR h w lost cash l).bun [97] = some 0 := rfl
theorem cnt_kn : (ofH 40 10).cnt = 40 := by kernel_rfl
set_option maxRecDepth 100000 in
set_option maxHeartbeats 1000000 in
theorem known_any (m : Int) (w : World) (hgl : Gl m w) : Calls Tryz.prog 20 #[] w fun r w' => r = .returned (.bool true) ∧ Below w.heap.size w w' := by
 have HGL := Lib.hid hgl
 clear hgl
 go_enter Tryz.func20, Tryz.ntmps20
 go_wp2_with fail
 with_reducible refine (new_any w HGL.out.g).mono ?_
 rintro _ w1 ⟨v0, p, rfl, hrm, hi, hF, hb⟩
 have HI0 := Lib.hid hi
 have HF0 := Lib.hid hF
 have HB0 := Lib.hid hb
 have HRM0 := Lib.hid hrm
 clear hi hF hb hrm
 go_wp2_with fail
 have hb1 := belowA w1 (.cells knRow 9)
 have HI1 := Lib.hid (HI0.out.below hb1)
 have HB1 := Lib.hid (HB0.out.trans (hb1.mono HB0.out.size))
 have HQ1 : Hid (∀ k, v0.F p k ∨ v0.C k → k ≠ w1.heap.size) := Lib.hid (fun k hk e => by have := HI0.out.lt hk; omega)
 have HK1 : Hid (At (w1.alloc (.cells knRow 9)) w1.heap.size knRow 9) := Lib.hid (At.new w1 knRow 9)
 have HS1 := Lib.hid HB0.out.size
 clear hb1 HI0 HB0
 change Code.wp Tryz.prog _ _ _ (w1.alloc (.cells knRow 9))
 generalize w1.alloc (.cells knRow 9) = w2 at HI1 HB1 HK1 ⊢
 generalize w1.heap.size = q at HQ1 HK1 HS1 ⊢
 go_loopw [3] (fun i wr => ∃ (j : Nat) (v : RV), j ≤ 5 ∧ i = .int .i64 j ∧ v.rm = runR (knO.take j) rm0 ∧ v.In 0 p wr ∧ At wr q knRow 9 ∧ (∀ k, v.F p k ∨ v.C k → k ≠ q) ∧ Below w.heap.size w wr ∧ ∀ k, v.F p k ∨ v.C k → w.heap.size ≤ k) (fun i _ => 5 - (intOf i).toNat)
 case atStart => exact ⟨0, v0, by omega, rfl, HRM0.out, HI1.out, HK1.out, HQ1.out, HB1.out, HF0.out⟩
 case round =>
  obtain ⟨j, v, hj, rfl, hrm, hi, hk, hq, hb, hF⟩ := hrel
  have HRM := Lib.hid hrm
  have HI := Lib.hid hi
  have HK := Lib.hid hk
  have HQ := Lib.hid hq
  have HB := Lib.hid hb
  have HF := Lib.hid hF
  clear hrm hi hk hq hb hF HI1 HF0 HB1 HRM0 HK1 HQ1
  have HGLr := Lib.hid (HGL.out.below HB.out)
  have HG : Hid v.rm.Good := Lib.hid (by rw [HRM.out]; exact runG _)
  by_cases hlt : j < 5
  ·have ct : wr.cell? ⟨q, j, none⟩ = some (.string (mkB (knAt j))) := (HK.out.cell j).trans (kn_row j hlt)
   have hlj : (j : Int) < 5 := by omega
   have hE := kn_run j hlt
   rw [← HRM.out] at hE
   have HE := Lib.hid hE
   clear hE
   go_wp2_with fail
   with_reducible refine (do_any v p _ m wr HI.out HG.out HGLr.out).mono ?_
   rintro _ w3 ⟨rfl, v1, hrm, hi, hr⟩
   have HI2 := Lib.hid hi
   have HRM2 : Hid (v1.rm = runR (knO.take (j + 1)) rm0) := Lib.hid (by rw [hrm, HE.out])
   obtain ⟨hb2, hF2⟩ := hr.fresh HF.out HB.out.size
   have HB2 := Lib.hid (HB.out.trans hb2)
   have HF2 := Lib.hid hF2
   have HQ2 := Lib.hid (hr.out HK.out.lt HQ.out)
   have HK2 := Lib.hid (HK.out.kp hr.kp fun hf => HQ.out q (.inl hf) rfl)
   rw [show (doR (knAt j) v.rm).1 = 0 by rw [HE.out]]
   clear hi hrm hr hb2 hF2 HI HB HF HRM HG HGLr ct HK HQ
   go_wp2_with fail
   exact ⟨⟨j + 1, v1, by omega, by go_num, HRM2.out, HI2.out, HK2.out, HQ2.out, HB2.out, HF2.out⟩, by simp [intOf]; omega⟩
  ·obtain rfl : j = 5 := by omega
   have HRM5 := Lib.hid (HRM.out.trans kn_all)
   have HW5 : Hid (knR (ofH 40 10) (knW 60 5 1 0 knC1) 5 (-240) knO).Good := Lib.hid (by rw [← HRM5.out]; exact HG.out)
   have hlb : v.bs.length ≤ 12 := by have := HG.out.ok.nb; simpa [RV.rm] using this
   clear HRM
   go_wp2_with fail
   with_reducible refine (bundle_any v p [97] wr HI.out hlb).mono ?_
   rintro _ w3 ⟨u, e, rfl, hu, hm, hi, hr⟩
   rw [HRM5.out, bun_knR] at hm
   obtain ⟨rfl, hh⟩ := hm
   have HI3 := Lib.hid hi
   have HU3 := Lib.hid hu
   have HH : Hid (u.h.cnt = 40) := Lib.hid (by rw [hh]; exact cnt_kn)
   obtain ⟨hb3, hF3⟩ := hr.fresh HF.out HB.out.size
   have HB3 := Lib.hid (HB.out.trans hb3)
   have HF3 := Lib.hid hF3
   clear hi hu hh hr hb3 hF3 HI HB HF HK HQ hlb
   go_wp2_with fail
   have hb4 := belowA w3 (.cells u.arr 56)
   have HI4 := Lib.hid (HI3.out.below hb4)
   have HB4 := Lib.hid (HB3.out.trans (hb4.mono HB3.out.size))
   have HU4 := Lib.hid (HU3.out.below hb4)
   clear hb4 HI3 HB3 HU3
   go_wp2_with fail
   with_reducible refine (countB_any u _ HU4.out).mono ?_
   rintro _ w5 ⟨rfl, hb⟩
   rw [HH.out]
   have HI5 := Lib.hid (HI4.out.below hb)
   have HB5 := Lib.hid (HB4.out.trans (hb.mono HB4.out.size))
   clear hb HI4 HB4 HU4 HH
   generalize w3.alloc (.cells u.arr 56) = w4 at *
   have HG5 : Hid v.rm.Good := Lib.hid (by rw [HRM5.out]; exact HW5.out)
   have HGL5 := Lib.hid (HGL.out.below HB5.out)
   go_wp2_with fail
   have HF5 := HF3
   clear HF3
   rw [kn_strS]
   with_reducible refine (do_any v p knS m w5 HI5.out HG5.out HGL5.out).mono ?_
   rintro _ w6 ⟨rfl, v6, hrm, hi, hr⟩
   have HI6 := Lib.hid hi
   have HRM6 : Hid (v6.rm = knR (ofH 40 10) (knW 60 5 1 0 knC1) 5 (-240) knO) := Lib.hid (by rw [hrm, HRM5.out, kn_6])
   rw [show (doR knS v.rm).1 = 13 by rw [HRM5.out, kn_6]]
   obtain ⟨hb2, hF2⟩ := hr.fresh HF5.out HB5.out.size
   have HB6 := Lib.hid (HB5.out.trans hb2)
   have HF6 := Lib.hid hF2
   have HG6 : Hid v6.rm.Good := Lib.hid (by rw [hrm]; exact doR_good HG5.out)
   have HGL6 := Lib.hid (HGL.out.below HB6.out)
   clear hi hrm hr hb2 hF2 HI5 HB5 HG5 HGL5 HRM5 HF5
   go_wp2_with fail
   rw [kn_strM]
   with_reducible refine (do_any v6 p knM m w6 HI6.out HG6.out HGL6.out).mono ?_
   rintro _ w7 ⟨rfl, v7, hrm, hi, hr⟩
   have HI7 := Lib.hid hi
   have HRM7 : Hid (v7.rm = knR (ofH 35 10) (knW 60 0 1 0 knC2) 5 (-240) (knO ++ [knM])) := Lib.hid (by rw [hrm, HRM6.out, kn_7])
   rw [show (doR knM v6.rm).1 = 0 by rw [HRM6.out, kn_7]]
   obtain ⟨hb2, hF2⟩ := hr.fresh HF6.out HB6.out.size
   have HB7 := Lib.hid (HB6.out.trans hb2)
   have HF7 := Lib.hid hF2
   have HG7 : Hid v7.rm.Good := Lib.hid (by rw [hrm]; exact doR_good HG6.out)
   have HGL7 := Lib.hid (HGL.out.below HB7.out)
   clear hi hrm hr hb2 hF2 HI6 HB6 HG6 HGL6 HRM6 HF6
   go_wp2_with fail
   rw [kn_strS]
   with_reducible refine (do_any v7 p knS m w7 HI7.out HG7.out HGL7.out).mono ?_
   rintro _ w8 ⟨rfl, v8, hrm, hi, hr⟩
   have HI8 := Lib.hid hi
   have HRM8 : Hid (v8.rm = knR (ofH 35 10) (knW 60 0 3 2000 knC2) 5 1760 (knO ++ [knM] ++ [knS])) := Lib.hid (by rw [hrm, HRM7.out, kn_8])
   rw [show (doR knS v7.rm).1 = 0 by rw [HRM7.out, kn_8]]
   obtain ⟨hb2, hF2⟩ := hr.fresh HF7.out HB7.out.size
   have HB8 := Lib.hid (HB7.out.trans hb2)
   have HF8 := Lib.hid hF2
   have HG8 : Hid v8.rm.Good := Lib.hid (by rw [hrm]; exact doR_good HG7.out)
   have HGL8 := Lib.hid (HGL.out.below HB8.out)
   clear hi hrm hr hb2 hF2 HI7 HB7 HG7 HGL7 HRM7 HF7
   go_wp2_with fail
   have HC : Hid (v8.cash = 1760) := Lib.hid (by have := congrArg Rm.cash HRM8.out; exact this)
   with_reducible refine (cash_any v8 p w8 HI8.out).mono ?_
   rintro _ w9 ⟨rfl, hi, hr⟩
   rw [HC.out]
   obtain ⟨hb2, _⟩ := hr.fresh HF8.out HB8.out.size
   have HB9 := Lib.hid (HB8.out.trans hb2)
   clear hi hr hb2
   go_wp2_with fail
   go_ret
   exact ⟨rfl, HB9.out⟩
end Go.Proofs.YtihhclhpjgeniaaGreatDoor
namespace Go.Proofs.YtihhclhpjgeniaaGreatDoor
open Go.RowKit Go.Sort Go.MuLone
def longB (l : List (List UInt8)) : Bool := l.any (fun t => decide (400 < t.length)) || decide (400 < l.length)
theorem longB_take {l : List (List UInt8)} {j : Nat} {t : List UInt8} (h : l[j]? = some t) (ht : 400 < t.length) : longB l = true := by
 unfold longB
 rw [Bool.or_eq_true]
 exact .inl (List.any_eq_true.2 ⟨t, List.mem_of_getElem? h, by simpa using ht⟩)
set_option maxRecDepth 100000 in
theorem long_any (A : Option Addr) (n c : Nat) (l : List (List UInt8)) (w : World) (hl : Reads w w.heap.size 1 A n (strL l)) (hn : n ≤ 9223372036854775807) : Calls Tryz.prog 19 #[.slice A n c] w fun r w' => r = .returned (.bool (longB l)) ∧ w' = w := by
 have hnl : n = l.length := by have := hl.1; rw [strL_len] at this; omega
 have HL := Lib.hid hl
 have HN := Lib.hid hnl
 clear hl hnl
 go_enter Tryz.func19, Tryz.ntmps19
 go_wp2_with fail
 go_loopw [3] (fun i wr => ∃ j : Nat, j ≤ n ∧ i = .int .i64 j ∧ wr = w ∧ ∀ t ∈ l.take j, t.length ≤ 400) (fun i _ => n - (intOf i).toNat)
 case atStart => exact ⟨0, Nat.zero_le _, rfl, rfl, fun t ht => by simp at ht⟩
 case round =>
  obtain ⟨j, hj, rfl, rfl, hs⟩ := hrel
  have HS := Lib.hid hs
  clear hs
  by_cases hlt : j < n
  ·have hjl : j < l.length := by have := HN.out; omega
   obtain ⟨t, ht⟩ : ∃ t, l[j]? = some t := ⟨l[j], List.getElem?_eq_getElem hjl⟩
   have HT := Lib.hid ht
   obtain ⟨ad, e1, hbk, hc⟩ := HL.out.2 (by omega)
   have ct : wr.cell? (ad.add j) = some (.string (mkB t)) := hc j _ (by simp [strL, ht])
   have hlj : (j : Int) < (n : Int) := by omega
   subst e1
   by_cases h4 : 400 < t.length
   ·have h4' : (400 : Int) < (t.length : Int) := by omega
    clear hc ht
    go_wp2_with fail
    go_ret
    exact ⟨by rw [longB_take HT.out h4]; rfl, rfl⟩
   ·have h4' : ¬ (400 : Int) < (t.length : Int) := by omega
    have v1 : IntKind.i64.wrap ((j : Int) + 1) = ((j + 1 : Nat) : Int) := by rw [IntWalk.i64_in _ (by omega)]; push_cast; rfl
    clear hc ht
    go_wp2_with fail
    refine ⟨⟨j + 1, by omega, by go_num, trivial, fun u hu => ?_⟩, by simp [intOf]; omega⟩
    rw [take_succ_of HT.out] at hu
    rcases List.mem_append.1 hu with hu | hu
    ·exact HS.out u hu
    ·obtain rfl := List.mem_singleton.1 hu; omega
  ·obtain rfl : j = n := by omega
   have hlj : ¬ (j : Int) < (j : Int) := by omega
   go_wp2_with fail
   go_ret
   refine ⟨?_, rfl⟩
   have e : l.take j = l := List.take_of_length_le (by have := HN.out; omega)
   have hs := HS.out
   rw [e] at hs
   have h1 : (l.any fun t => decide (400 < t.length)) = false := List.any_eq_false.2 fun t ht => by have := hs t ht; simp; omega
   unfold longB
   rw [h1, Bool.false_or, ← HN.out]
   show Ending.returned (.bool (decide ((400:Int) < (j:Int)))) = _
   rw [decide_eq_decide.2 (show (400:Int) < (j:Int) ↔ 400 < j by omega)]
end Go.Proofs.YtihhclhpjgeniaaGreatDoor
namespace Go.Proofs.YtihhclhpjgeniaaGreatDoor
open Go.RowKit Go.Sort Go.MuLone
def RetT (w : World) (r : Ending) (w' : World) : Prop := r = .returned (.bool true) ∧ Below w.heap.size w w'
theorem cell_low {N : Nat} {w w' : World} {a : Addr} {j : Nat} (h : Below N w w') (ha : a.block < N) : w'.cell? (a.add j) = w.cell? (a.add j) := h.cell (by simpa [blockAdd] using ha)
end Go.Proofs.YtihhclhpjgeniaaGreatDoor
namespace Go.Proofs.YtihhclhpjgeniaaGreatDoor
open Go.RowKit Go.Sort
theorem hairsB_take {l : List (List UInt8 × Hr)} {j : Nat} {n : List UInt8} {g : Hr} (h : l[j]? = some (n, g)) : hairsB (l.take (j + 1)) = hairsB (l.take j) + g.cnt := by
 rw [take_succ_of h]
 simp [hairsB]
theorem hairsW_take {l : List Wg} {j : Nat} {b : Wg} (h : l[j]? = some b) : hairsW (l.take (j + 1)) = hairsW (l.take j) + (b.hairs - b.shed) := by
 rw [take_succ_of h]
 simp [hairsW]
theorem mem_take {α : Type} {l : List α} {j : Nat} {x : α} (h : x ∈ l.take j) : x ∈ l := List.mem_of_mem_take h
theorem bun_own {r : Rm} (h : (r.bs.map (·.1)).Nodup) {j : Nat} {b : List UInt8 × Hr} (hj : r.bs[j]? = some b) : r.bun b.1 = some j := by
 refine find_at hj (by simp) fun x hx => ?_
 obtain ⟨i, hi, rfl⟩ := List.getElem_of_mem hx
 have hi' : i < j ∧ i < r.bs.length := by rw [List.length_take] at hi; omega
 obtain ⟨hjl, hje⟩ := List.getElem?_eq_some_iff.1 hj
 have h1 := List.pairwise_iff_getElem.1 h i j (by rw [List.length_map]; exact hi'.2) (by rw [List.length_map]; exact hjl) hi'.1
 rw [List.getElem_map, List.getElem_map, hje] at h1
 rw [List.getElem_take]
 simpa using h1
theorem hairs_small {r : Rm} (h : r.Ok) (j k : Nat) : (0 ≤ hairsB (r.bs.take j) ∧ hairsB (r.bs.take j) ≤ 576000000) ∧ 0 ≤ hairsW (r.ws.take k) ∧ hairsW (r.ws.take k) ≤ 12000000 := by
 have a := hairsB_in (l := r.bs.take j) fun b hb => (h.hb b (mem_take hb)).2
 have b := hairsW_in (l := r.ws.take k) fun b hb => h.hw b (mem_take hb)
 have c : (r.bs.take j).length ≤ 12 := by rw [List.length_take]; have := h.nb; omega
 have d : (r.ws.take k).length ≤ 12 := by rw [List.length_take]; have := h.nw; omega
 omega
theorem lost_small {r : Rm} (h : r.Good) : 0 ≤ r.lost ∧ r.lost ≤ 300000000 ∧ r.bought ≤ 300000000 := by
 have a := h.ok.lost
 have b := h.ok.bal
 have c := hairs_small h.ok r.bs.length r.ws.length
 rw [List.take_length, List.take_length] at c
 have d := h.few.bought
 have e := h.day
 omega
end Go.Proofs.YtihhclhpjgeniaaGreatDoor
namespace Go.Proofs.YtihhclhpjgeniaaGreatDoor
open Go.RowKit Go.Sort Go.MuLone
def RetL (v : RV) (p e sz n : Nat) (xs : List Value) (w : World) (r : Ending) (w' : World) : Prop :=
 ∃ B d, r = .returned (.slice B n d) ∧ w'.ownsRow w.heap.size e sz (.slice B n d) n xs ∧ v.In 0 p w' ∧ Rs p v w v w'
theorem row_door {v : RV} {p e sz n t d : Nat} {w W : World} {tmps : Array Value} {fn : Func} {xs : List Value} {B : Option Addr} (hfn : fn.results = #[.tmp t]) (hi : v.In 1 p W) (hr : Rs p v w v W) (ho : W.ownsRow w.heap.size e sz (.slice B n d) n xs) (hp : p < w.heap.size)
  (ht : tmps.getD t undef = .slice B n d) :
  bodyPostD Tryz.prog fn (RetL v p e sz n xs w) Exit.ret { tmps := tmps, defers := [{ target := .fn (.func 55) #[], args := #[.pointer (some ⟨p, 0, none⟩)] }] } W := by
 obtain ⟨a, b⟩ := hi.lock 0
 refine unlock_door (At.cell hi.room 0) (hi.room.fz 0) (results_tmp hfn _ _ _) ?_
 rw [ht]
 refine ⟨B, d, rfl, row_far ho ?_ _, a, hr.trans b⟩
 intro k hk e
 have := (ho.lt k hk).1
 have e' : k = p := e
 omega
def nm1 (b : NB) : List Value := [.string (mkB b.name)]
theorem nm_len (b : NB) : (nm1 b).length = 1 := rfl
def wg1 (x : NW) : List Value := wgL x.w
theorem wg_len (x : NW) : (wg1 x).length = 12 := rfl
set_option maxRecDepth 100000 in
set_option maxHeartbeats 1000000 in
theorem bundles_any (v : RV) (p : Nat) (w : World) (h : v.In 0 p w) (hlb : v.bs.length ≤ 12) : Calls Tryz.prog 46 #[.pointer (some ⟨p, 0, none⟩)] w (RetL v p 9 1 v.bs.length (v.bs.flatMap nm1) w) := by
 have h1 : w.cell? ⟨p, 0, none⟩ = some (.int .i32 0) := At.cell h.room 0
 have f1 : w.frozen? ⟨p, 0, none⟩ = false := h.room.fz 0
 obtain ⟨l1, l2⟩ := h.lock 1
 have HL1 := Lib.hid l1
 have HR1 := Lib.hid l2
 have HP := Lib.hid (h.lt (.inl (.inl rfl)) : p < w.heap.size)
 have HZ : Hid ((w.setCell ⟨p, 0, none⟩ (.int .i32 1)).heap.size = w.heap.size) := Lib.hid (size_set _ _ _)
 obtain ⟨N, hN⟩ : ∃ N, v.bs.length = N := ⟨_, rfl⟩
 have HN := Lib.hid hN
 rw [hN] at hlb ⊢
 clear h l1 l2 hN
 have c2 : (w.setCell ⟨p, 0, none⟩ (.int .i32 1)).cell? ⟨p, 2, none⟩ = some (.slice v.A N v.ca) := by rw [← HN.out]; exact At.cell HL1.out.room 2
 go_enter_defers Tryz.func46, Tryz.ntmps46
 go_wp2_with (go_at_call 54; refine (lock_free muLib ⟨p, 0, none⟩ _ h1 f1).mono ?_; rintro e w' ⟨rfl, rfl⟩)
 clear h1 f1
 clear c2
 generalize w.setCell ⟨p, 0, none⟩ (.int .i32 1) = w1 at HL1 HR1 HZ ⊢
 go_loopw [3, 20] (fun out i wr => ∃ (j : Nat) (B : Option Addr) (d : Nat), j ≤ N ∧ i = .int .i64 j ∧ out = .slice B j d ∧ wr.ownsRow w.heap.size 9 1 (.slice B j d) j ((v.bs.take j).flatMap nm1) ∧ Below w1.heap.size w1 wr) (fun _ i _ => N - (intOf i).toNat)
 case atStart => exact ⟨0, none, 0, Nat.zero_le _, rfl, rfl, World.ownsRow_nil _ _ _ _, Below.refl _ _⟩
 case round =>
  obtain ⟨j, B, d, hj, rfl, rfl, ho, hb⟩ := hrel
  have HO := Lib.hid ho
  have HB := Lib.hid hb
  clear ho hb
  by_cases hlt : j < N
  ·obtain ⟨b, hb⟩ : ∃ b, v.bs[j]? = some b := ⟨v.bs[j]'(by rw [HN.out]; exact hlt), List.getElem?_eq_getElem _⟩
   have hrow := (HL1.out.below HB.out).rb
   obtain ⟨g, hg⟩ := own_form hrow (by rw [HN.out]; omega)
   rw [HN.out, hg] at hrow
   rw [hg]
   have d0 : wr.cell? ⟨g, j * 3, none⟩ = some (.string (mkB b.name)) := own_cell nb_len (by omega) hrow hb (j := 0) (by omega)
   have d1 : wr.cell? ⟨g, j * 3 + 1, none⟩ = some (.slice b.v.A b.v.n b.v.c) := own_cell nb_len (by omega) hrow hb (j := 1) (by omega)
   have d2 : wr.cell? ⟨g, j * 3 + 2, none⟩ = some (.slice b.v.B b.v.m b.v.d) := own_cell nb_len (by omega) hrow hb (j := 2) (by omega)
   have HT : Hid ((v.bs.take (j + 1)).flatMap nm1 = (v.bs.take j).flatMap nm1 ++ [.string (mkB b.name)]) := Lib.hid (by rw [take_succ_of hb]; simp [nm1])
   have v1' : IntKind.i64.wrap ((j : Int) + 1) = ((j + 1 : Nat) : Int) := by rw [IntWalk.i64_in _ (by omega)]; push_cast; rfl
   clear hb hrow hg
   have k1 := belowA wr (.cells #[.string (mkB b.name), .slice b.v.A b.v.n b.v.c, .slice b.v.B b.v.m b.v.d] 130)
   have k2 := belowA (wr.alloc (.cells #[.string (mkB b.name), .slice b.v.A b.v.n b.v.c, .slice b.v.B b.v.m b.v.d] 130)) (.cells #[.string (mkB b.name)] 9)
   have HO2 := Lib.hid (row_on HO.out (below_trans' k1 k2))
   have HB2 := Lib.hid (HB.out.trans ((below_trans' k1 k2).mono HB.out.size))
   have hrd := reads_new (wr.alloc (.cells #[.string (mkB b.name), .slice b.v.A b.v.n b.v.c, .slice b.v.B b.v.m b.v.d] 130)) [.string (mkB b.name)] 9 1 1 rfl
   rw [show (wr.alloc (.cells #[.string (mkB b.name), .slice b.v.A b.v.n b.v.c, .slice b.v.B b.v.m b.v.d] 130)).heap.size = wr.heap.size + 1 from World.size_alloc _ _] at hrd
   clear k1 k2
   go_wp2_with (at_builtin; refine wpList_pushXm rfl _ _ 22 9 rfl Tryz.underlying22 info9 rfl (by decide) (by decide) w.heap.size _ B j d ((v.bs.take j).flatMap nm1) (some ⟨wr.heap.size + 1, 0, none⟩) 1 1 [.string (mkB b.name)] rfl HO2.out (by rw [← HZ.out]; exact HB2.out.size) rfl hrd (fun u hu => by rw [List.mem_singleton.1 hu]; rfl) (by omega) ?_; intro A' c' X ho hg hl)
   refine ⟨⟨j + 1, A', c', by omega, by go_num, rfl, by rw [HT.out]; exact ho, HB2.out.grown hg HB2.out.size fun k hk => by rw [HZ.out]; exact (HO2.out.lt k hk).1⟩, by simp [intOf]; omega⟩
  ·obtain rfl : j = N := by omega
   have e : v.bs.take j = v.bs := List.take_of_length_le (by rw [HN.out]; exact Nat.le_refl _)
   rw [e] at HO
   go_wp2_with fail
   exact row_door rfl (HL1.out.below HB.out) (HR1.out.grow HB.out) HO.out HP.out rfl
theorem info49 : (Tryz.prog.info? 49).map (fun i => (i.zero, i.size, i.bytes)) = some (some (.agg #[.string ByteArray.empty, .string ByteArray.empty, .int .i64 0, .int .i64 0, .int .i64 0, .int .i64 0, .int .i64 0, .int .i64 0, .int .i64 0, .string ByteArray.empty, .int .i64 0, .int .i64 0]), 12, 120) := by kernel_rfl
theorem wg_one (x : Wg) : ∀ u ∈ wgL x, u.oneCell' = true := by
 intro u hu
 simp only [wgL, List.mem_cons, List.not_mem_nil, or_false] at hu
 rcases hu with rfl | rfl | rfl | rfl | rfl | rfl | rfl | rfl | rfl | rfl | rfl | rfl <;> rfl
set_option maxRecDepth 100000 in
set_option maxHeartbeats 1000000 in
theorem wigs_any (v : RV) (p : Nat) (w : World) (h : v.In 0 p w) (hlb : v.ws.length ≤ 12) : Calls Tryz.prog 39 #[.pointer (some ⟨p, 0, none⟩)] w (RetL v p 49 12 v.ws.length (v.ws.flatMap wg1) w) := by
 have h1 : w.cell? ⟨p, 0, none⟩ = some (.int .i32 0) := At.cell h.room 0
 have f1 : w.frozen? ⟨p, 0, none⟩ = false := h.room.fz 0
 obtain ⟨l1, l2⟩ := h.lock 1
 have HL1 := Lib.hid l1
 have HR1 := Lib.hid l2
 have HP := Lib.hid (h.lt (.inl (.inl rfl)) : p < w.heap.size)
 have HZ : Hid ((w.setCell ⟨p, 0, none⟩ (.int .i32 1)).heap.size = w.heap.size) := Lib.hid (size_set _ _ _)
 obtain ⟨N, hN⟩ : ∃ N, v.ws.length = N := ⟨_, rfl⟩
 have HN := Lib.hid hN
 rw [hN] at hlb ⊢
 clear h l1 l2 hN
 have c2 : (w.setCell ⟨p, 0, none⟩ (.int .i32 1)).cell? ⟨p, 3, none⟩ = some (.slice v.B N v.cb) := by rw [← HN.out]; exact At.cell HL1.out.room 3
 go_enter_defers Tryz.func39, Tryz.ntmps39
 go_wp2_with (go_at_call 54; refine (lock_free muLib ⟨p, 0, none⟩ _ h1 f1).mono ?_; rintro e w' ⟨rfl, rfl⟩)
 clear h1 f1
 clear c2
 generalize w.setCell ⟨p, 0, none⟩ (.int .i32 1) = w1 at HL1 HR1 HZ ⊢
 go_loopw [3, 20] (fun out i wr => ∃ (j : Nat) (B : Option Addr) (d : Nat), j ≤ N ∧ i = .int .i64 j ∧ out = .slice B j d ∧ wr.ownsRow w.heap.size 49 12 (.slice B j d) j ((v.ws.take j).flatMap wg1) ∧ Below w1.heap.size w1 wr) (fun _ i _ => N - (intOf i).toNat)
 case atStart => exact ⟨0, none, 0, Nat.zero_le _, rfl, rfl, World.ownsRow_nil _ _ _ _, Below.refl _ _⟩
 case round =>
  obtain ⟨j, B, d, hj, rfl, rfl, ho, hb⟩ := hrel
  have HO := Lib.hid ho
  have HB := Lib.hid hb
  clear ho hb
  by_cases hlt : j < N
  ·obtain ⟨b, hb⟩ : ∃ b, v.ws[j]? = some b := ⟨v.ws[j]'(by rw [HN.out]; exact hlt), List.getElem?_eq_getElem _⟩
   have hrow := (HL1.out.below HB.out).rw
   obtain ⟨g, hg⟩ := own_form hrow (by rw [HN.out]; omega)
   rw [HN.out, hg] at hrow
   rw [hg]
   have d0 : wr.cell? ⟨g, j * 13, none⟩ = some (.string (mkB b.w.name)) := own_cell nw_len (by omega) hrow hb (j := 0) (by omega)
   have d1 : wr.cell? ⟨g, j * 13 + 1, none⟩ = some (.string (mkB b.w.bun)) := own_cell nw_len (by omega) hrow hb (j := 1) (by omega)
   have d2 : wr.cell? ⟨g, j * 13 + 2, none⟩ = some (.int .i64 b.w.hairs) := own_cell nw_len (by omega) hrow hb (j := 2) (by omega)
   have d3 : wr.cell? ⟨g, j * 13 + 3, none⟩ = some (.int .i64 b.w.done) := own_cell nw_len (by omega) hrow hb (j := 3) (by omega)
   have d4 : wr.cell? ⟨g, j * 13 + 4, none⟩ = some (.int .i64 b.w.shed) := own_cell nw_len (by omega) hrow hb (j := 4) (by omega)
   have d5 : wr.cell? ⟨g, j * 13 + 5, none⟩ = some (.int .i64 b.w.len) := own_cell nw_len (by omega) hrow hb (j := 5) (by omega)
   have d6 : wr.cell? ⟨g, j * 13 + 6, none⟩ = some (.int .i64 b.w.lvl) := own_cell nw_len (by omega) hrow hb (j := 6) (by omega)
   have d7 : wr.cell? ⟨g, j * 13 + 7, none⟩ = some (.int .i64 b.w.tone) := own_cell nw_len (by omega) hrow hb (j := 7) (by omega)
   have d8 : wr.cell? ⟨g, j * 13 + 8, none⟩ = some (.int .i64 b.w.bl) := own_cell nw_len (by omega) hrow hb (j := 8) (by omega)
   have d9 : wr.cell? ⟨g, j * 13 + 9, none⟩ = some (.string (mkB b.w.plait)) := own_cell nw_len (by omega) hrow hb (j := 9) (by omega)
   have d10 : wr.cell? ⟨g, j * 13 + 10, none⟩ = some (.int .i64 b.w.state) := own_cell nw_len (by omega) hrow hb (j := 10) (by omega)
   have d11 : wr.cell? ⟨g, j * 13 + 11, none⟩ = some (.int .i64 b.w.price) := own_cell nw_len (by omega) hrow hb (j := 11) (by omega)
   have d12 : wr.cell? ⟨g, j * 13 + 12, none⟩ = some (.slice b.A b.n b.c) := own_cell nw_len (by omega) hrow hb (j := 12) (by omega)
   have HT : Hid ((v.ws.take (j + 1)).flatMap wg1 = ((v.ws.take j).flatMap wg1) ++ wgL b.w) := Lib.hid (by rw [take_succ_of hb]; simp [wg1])
   have v1' : IntKind.i64.wrap ((j : Int) + 1) = ((j + 1 : Nat) : Int) := by rw [IntWalk.i64_in _ (by omega)]; push_cast; rfl
   clear hb hrow hg
   have k1 := belowA wr (.cells b.arr 126)
   have k2 := belowA (wr.alloc (.cells b.arr 126)) (.cells (wgL b.w).toArray 49)
   have HO2 := Lib.hid (row_on HO.out (below_trans' k1 k2))
   have HB2 := Lib.hid (HB.out.trans ((below_trans' k1 k2).mono HB.out.size))
   have hrd := reads_new (wr.alloc (.cells b.arr 126)) (wgL b.w) 49 12 1 rfl
   rw [show (wr.alloc (.cells b.arr 126)).heap.size = wr.heap.size + 1 from World.size_alloc _ _] at hrd
   clear k1 k2
   go_wp2_with (at_builtin; refine wpList_pushXm rfl _ _ 73 49 rfl Tryz.underlying73 info49 rfl (by decide) (by decide) w.heap.size _ B j d ((v.ws.take j).flatMap wg1) (some ⟨wr.heap.size + 1, 0, none⟩) 1 1 (wgL b.w) rfl HO2.out (by rw [← HZ.out]; exact HB2.out.size) rfl hrd (wg_one b.w) (by omega) ?_; intro A' c' X ho hg hl)
   refine ⟨⟨j + 1, A', c', by omega, by go_num, rfl, by rw [HT.out]; exact ho, HB2.out.grown hg HB2.out.size fun k hk => by rw [HZ.out]; exact (HO2.out.lt k hk).1⟩, by simp [intOf]; omega⟩
  ·obtain rfl : j = N := by omega
   have e : v.ws.take j = v.ws := List.take_of_length_le (by rw [HN.out]; exact Nat.le_refl _)
   rw [e] at HO
   go_wp2_with fail
   exact row_door rfl (HL1.out.below HB.out) (HR1.out.grow HB.out) HO.out HP.out rfl
end Go.Proofs.YtihhclhpjgeniaaGreatDoor
