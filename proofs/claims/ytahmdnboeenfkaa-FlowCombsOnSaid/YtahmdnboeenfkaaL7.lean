/- Walks: the law FlowCombsOn. -/
import Derived.Test.YtahmdnboeenfkaaL5
import Derived.Test.YtahmdnboeenfkaaL6
namespace Go.Proofs.Ytahmdnboeenfkaa
open Go.RowKit Go.Sort

theorem RetComb_ok {f : Fld} {p : Plc} {w w' : World} {r : Ending} (h : RetComb f p w r w') (h1 : valid f = 0) (h2 : isPl f p = true) :
    ∃ k b A c, Stop f p k b ∧ r = .returned (.tuple #[.slice A k c, .bool b, .int .i64 0]) ∧ Reads w' w'.heap.size 2 A k (plcs (pth f p k)) ∧ Below w.heap.size w w' := by
  rcases h with ⟨hz, _⟩ | ⟨_, hp, _⟩ | ⟨_, _, h⟩
  · exact absurd h1 hz
  · rw [h2] at hp; cases hp
  · exact h
theorem Comb_ok (v : FV) (p : Plc) (w : World) (hv : v.In w) (h1 : valid v.f = 0) (h2 : isPl v.f p = true) : Calls Try.prog 31 #[v.val, .int .i64 p.1, .int .i64 p.2] w
    fun r w' => ∃ k b A c, Stop v.f p k b ∧ r = .returned (.tuple #[.slice A k c, .bool b, .int .i64 0]) ∧ Reads w' w'.heap.size 2 A k (plcs (pth v.f p k)) ∧ Below w.heap.size w w' :=
  (Comb_any v p w hv).mono fun _ _ h => RetComb_ok h h1 h2
theorem FV.In.drew {v : FV} {w : World} (h : v.In w) : v.In w.drew := ⟨h.ds.drew, h.ps.drew, h.nb, h.mb⟩
set_option maxRecDepth 100000 in
theorem lawCombsOn (v : FV) (p : Plc) (cut : Int) (w : World) (hv : v.In w) :
    Calls Try.prog 9 #[v.val, pval p, .int .i64 cut] w fun r w' => r = .returned (.bool true) ∧ Below w.heap.size w w' := by
  have HV := Lib.hid hv
  clear hv
  go_enter Try.func9, Try.ntmps9
  dsimp only [FV.val, pval]
  go_wp2_with fail
  refine (long_any v _ (HV.out.below (belowAA _ _ _))).mono ?_
  rintro r w1 ⟨rfl, hb1⟩
  have b0 := ((Box.new _ _ _).alloc _).below hb1
  have b1 := (Box.new2 _ _ _ _ _).below hb1
  have hw1 := Lib.hid (below2 _ _ hb1)
  clear hb1
  cases hlong : longF v.f
  case true =>
    go_wp2_with fail
    refine (known_any _).mono ?_
    rintro r w2 ⟨rfl, hb2⟩
    go_wp2_with fail
    go_ret
    exact ⟨rfl, below_trans' hw1.out hb2⟩
  clear hlong
  have c0 := b0.at
  have c1 := b1.at
  have HV1 := Lib.hid (HV.out.below hw1.out)
  go_wp2_with fail
  refine (Comb_any v p _ HV1.out).mono ?_
  intro r w2 hr
  clear c0 c1
  unfold RetComb at hr
  rcases hr with ⟨hz, rfl, hb2⟩ | ⟨hz, hp, rfl, hb2⟩ | ⟨hz, hp, K, b, A, c, hs, rfl, hrd, hb2⟩
  · have hw2 := Lib.hid (below_trans' hw1.out hb2)
    have hz' : (valid v.f != 0) = true := by simpa using hz
    clear hb2 hz
    go_wp2_with fail
    refine (known_any _).mono ?_
    rintro r w3 ⟨rfl, hb2⟩
    go_wp2_with fail
    go_ret
    exact ⟨rfl, below_trans' hw2.out hb2⟩
  · have hw2 := Lib.hid (below_trans' hw1.out hb2)
    clear hb2 hz hp
    go_wp2_with fail
    refine (known_any _).mono ?_
    rintro r w3 ⟨rfl, hb2⟩
    go_wp2_with fail
    go_ret
    exact ⟨rfl, below_trans' hw2.out hb2⟩
  have ok := okf_of_valid hz
  have hlen := hs.goes.len (by have := ok.w1; omega) (by have := ok.h1; omega)
  have hmul := Int.mul_le_mul ok.w2 ok.h2 (by have := ok.h1; omega) (by omega)
  have hpos := hs.pos
  have hK0 : ((K : Int) == 0) = false := by rw [beq_eq_false_iff_ne]; omega
  have hKl : decide (v.f.W * v.f.H < (K : Int)) = false := by rw [decide_eq_false_iff_not]; omega
  have hm0 : 0 ≤ v.f.W * v.f.H := by omega
  have hm1 : v.f.W * v.f.H ≤ 144 := by omega
  have hKb : K ≤ 144 := by omega
  have HS := Lib.hid hs
  have HZ := Lib.hid hz
  have HR := Lib.hid hrd
  have hw2 := Lib.hid (below_trans' hw1.out hb2)
  have HV2 := Lib.hid (HV.out.below hw2.out)
  have d0 := b0.below hb2
  have d1 := b1.below hb2
  have c0 := d0.at
  have c1 := d1.at
  obtain ⟨ad, q, e1, hbk, hx0, f0, f1⟩ := plat hrd (k := 0) (by rw [pth_length]; exact hpos)
  obtain rfl : q = p := by
    rw [pth_get hpos] at hx0
    exact (Option.some.inj hx0).symm
  rw [show ad.add (0 * 2) = ad by simp [Addr.add]] at f0 f1
  have X0 : ∀ w, (Instr.indexAt 45 (.slice A K c) (.int .i64 0)).run Try.prog w = .ok (.pointer (some ad)) w := fun w => by
    have := ix45 (c := c) e1 hpos w
    rwa [show ad.add (0 * 2) = ad by simp [Addr.add]] at this
  have g1 := eqg35 .neq
  have g2 : ∀ w, (binOp .neq 35 (pval q) (pval q)).run Try.prog w = .ok (.bool false) w := fun w => by rw [neq35 q q w]; simp [eqP]
  clear hs hz hrd hb2 ok hlen hmul hx0 e1 hp b0 b1
  go_wp2_with fail
  go_quiet (fail)
  obtain ⟨J, hJ, hJe⟩ := uwrap_mod cut hpos (by omega)
  clear c0 c1 f0 f1 X0 g1 g2
  go_wp2_with fail
  rw [hJe]
  clear hJe
  refine wp_gen (fun W => Box W w.heap.size #[.int .i64 v.f.W, .int .i64 v.f.H, .slice v.A v.n v.c, .slice v.B v.m v.d] ∧ Reads W W.heap.size 2 A K (plcs (pth v.f q K)) ∧ Below w2.heap.size w2 W) ⟨d0.drewN nq, HR.out.drewN nq, below_drewN' (Below.refl _ _) _⟩ ?_
  rintro w3 ⟨b0, hr3, hb3⟩
  replace hw2 := Lib.hid (below_trans' hw2.out hb3)
  replace HV2 := Lib.hid (HV2.out.below hb3)
  replace HR := Lib.hid hr3
  obtain ⟨ad', q', e1, hbk', hx0, f0, f1⟩ := plat hr3 (k := J) (by rw [pth_length]; exact hJ)
  obtain rfl : q' = itn v.f q J := by
    rw [pth_get hJ] at hx0
    exact (Option.some.inj hx0).symm
  have X := fun w => ix45 (c := c) e1 hJ w
  obtain ⟨y, hy⟩ : ∃ y, y = itn v.f q J := ⟨_, rfl⟩
  rw [← hy] at f0 f1
  have HY := Lib.hid hy
  have hJ0 : (0 : Int) ≤ (J : Int) := by omega
  have hJ1 : (J : Int) < (K : Int) := by omega
  have c0 := b0.at
  have hon := Lib.hid (show isPl v.f y = true by rw [hy]; exact HS.out.goes.on J hJ)
  clear hr3 hb3 hx0 e1 d0 d1 hy
  go_region_held3 (fun w' => (∀ i, w'.cell? ⟨w.heap.size, i, none⟩ = (#[.int .i64 v.f.W, .int .i64 v.f.H, .slice v.A v.n v.c, .slice v.B v.m v.d] : Array Value)[i]?) ∧ w'.cell? (ad'.add (J * 2)) = some (.int .i64 y.1) ∧ w'.cell? ⟨(ad'.add (J * 2)).block, (ad'.add (J * 2)).off + 1, none⟩ = some (.int .i64 y.2)) (first | exact ⟨c0, f0, f1⟩ | exact ⟨ck, fk, fj⟩)
    (first
      | (go_at_call 31; refine (Comb_ok v y _ HV2.out.drew HZ.out hon.out).mono ?_; rintro r w4 ⟨m, b', A', c', hs4, rfl, hr5, hb4⟩; have HB4 := Lib.hid (undrew hb4); have HS4 := Lib.hid hs4; have HR5 := Lib.hid hr5; have ck := (b0.below HB4.out).at; have fk := (HB4.out.cell (p := ad'.add (J * 2)) (by rw [blockAdd]; exact hbk')).trans f0; have fj := (HB4.out.cell (p := ⟨(ad'.add (J * 2)).block, (ad'.add (J * 2)).off + 1, none⟩) (by show (ad'.add (J * 2)).block < _; rw [blockAdd]; exact hbk')).trans f1; clear hs4 hr5 hb4)
      | (go_at_call 31; refine (Comb_ok v y _ HV2.out HZ.out hon.out).mono ?_; rintro r w4 ⟨m, b', A', c', hs4, rfl, hr5, hb4⟩; have HB4 := Lib.hid hb4; have HS4 := Lib.hid hs4; have HR5 := Lib.hid hr5; have ck := (b0.below HB4.out).at; have fk := (HB4.out.cell (p := ad'.add (J * 2)) (by rw [blockAdd]; exact hbk')).trans f0; have fj := (HB4.out.cell (p := ⟨(ad'.add (J * 2)).block, (ad'.add (J * 2)).off + 1, none⟩) (by show (ad'.add (J * 2)).block < _; rw [blockAdd]; exact hbk')).trans f1; clear hs4 hr5 hb4))
  obtain ⟨e1, e2, e3⟩ := HS.out.later hJ (by rw [← HY.out]; exact HS4.out)
  subst e1
  have hmb : m ≤ 144 := by
    have ok := okf_of_valid HZ.out
    have hlen := HS4.out.goes.len (by have := ok.w1; omega) (by have := ok.h1; omega)
    omega
  have g1 : decide ((m : Int) < (K : Int) - (J : Int)) = false := by rw [decide_eq_false_iff_not]; omega
  have hw4 := Lib.hid (below_trans' hw2.out HB4.out)
  have HR4 := Lib.hid (HR.out.on HB4.out)
  clear ck fk fj f0 f1 c0 X hon HR HB4 hKl hm0 hm1 hK0
  have he : ∀ i z, J ≤ i → i < K → (pth v.f q K)[i]? = some z → (pth v.f y m)[i - J]? = some z := fun i z h1 h2 h3 => by
    rw [pth_get h2] at h3
    rw [pth_get (by omega), HY.out, itn_add, show J + (i - J) = i by omega, h3]
  have HE := Lib.hid he
  clear he
  cases b
  case' false => have g2 : ((m : Int) != (K : Int) - (J : Int)) = false := by have := e3 rfl; rw [bne_eq_false_iff_eq]; omega
  all_goals
    clear e3
    go_wp2_with fail
    go_loopw [14] (fun i wr => ∃ k : Nat, J ≤ k ∧ k ≤ K ∧ i = .int .i64 k ∧ Below w4.heap.size w4 wr) (fun i _ => K - (intOf i).toNat)
    case atStart => exact ⟨J, by omega, by omega, rfl, Below.refl _ _⟩
    case round =>
      obtain ⟨k, hk0, hk, rfl, hb0⟩ := hrel
      have hbel := Lib.hid hb0
      have HRr := Lib.hid (HR4.out.on hb0)
      have HRr' := Lib.hid (HR5.out.on hb0)
      clear hb0
      by_cases hlt : k < K
      · obtain ⟨ad, e, e1, hbk, hx0, d0, d1⟩ := plat HRr.out (k := k) (by rw [pth_length]; exact hlt)
        obtain ⟨ad', e', e1', hbk', hx0', d0', d1'⟩ := plat HRr'.out (k := k - J) (by rw [pth_length]; omega)
        obtain rfl : e = e' := Option.some.inj ((HE.out k e hk0 hlt hx0).symm.trans hx0')
        have X := fun w => ix45 (c := c) e1 hlt w
        have X' := fun w => ix45 (c := c') e1' (show k - J < m by omega) w
        rw [show ((k - J : Nat) : Int) = (k : Int) - (J : Int) by omega] at X'
        have h0 : (0 : Int) ≤ (k : Int) - (J : Int) := by omega
        have h1 : (k : Int) - (J : Int) < (m : Int) := by omega
        have q1 := eqg35 .neq
        have q2 : ∀ w, (binOp .neq 35 (pval e) (pval e)).run Try.prog w = .ok (.bool false) w := fun w => by rw [neq35 e e w]; simp [eqP]
        have h2 : IntKind.i64.wrap ((k : Int) - (J : Int)) = (k : Int) - (J : Int) := IntWalk.i64_in _ (by omega)
        clear hx0 hx0' e1 e1'
        go_wp2_with fail
        go_quiet (fail)
        clear h2
        go_wp2_with fail
        go_roundw
        case rel => exact ⟨k + 1, by omega, by omega, by go_num, below_drewN' hbel.out _⟩
        case measure => simp [intOf]; omega
      · go_wp2_with fail
        refine (known_any _).mono ?_
        rintro r w6 ⟨rfl, hb2⟩
        have HB := Lib.hid hb2
        clear hb2
        go_wp2_with fail
        go_ret
        exact ⟨rfl, below_trans' hw4.out (below_trans' hbel.out HB.out)⟩
theorem lawCombsOnR (v : FV) (q : Int × Int) (cut : Int) (w : World) (hv : v.In w) {p1 p2 : Prop} (_ : p1) (_ : p2) :
    Calls Try.prog 9 #[v.val, pval q, .int .i64 cut] w fun r w' => r = .returned (.bool true) ∧ Below w.heap.size w w' := lawCombsOn v q cut w hv
end Go.Proofs.Ytahmdnboeenfkaa
