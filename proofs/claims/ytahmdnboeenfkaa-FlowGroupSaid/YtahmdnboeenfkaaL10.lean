/- Walks: the law FlowGroup. -/
import Derived.Test.YtahmdnboeenfkaaW36
import Derived.Test.YtahmdnboeenfkaaW37
import Derived.Test.YtahmdnboeenfkaaL1
namespace Go.Proofs.Ytahmdnboeenfkaa
open Go.RowKit Go.Sort

theorem i64_and1023 (n : Int) : bits .and .i64 n 1023 = n % 1024 := by
  have h7 : (BitVec.ofInt 64 1023).toNat = 2 ^ 10 - 1 := by decide
  have key : (BitVec.ofInt 64 n &&& BitVec.ofInt 64 1023).toNat = (n % ((2 ^ 64 : Nat) : Int)).toNat % 2 ^ 10 := by
    rw [BitVec.toNat_and, BitVec.toNat_ofInt, h7, Nat.and_two_pow_sub_one_eq_mod]
  show IntKind.i64.wrap ((BitVec.ofInt 64 n &&& BitVec.ofInt 64 1023).toNat : Nat) = n % 1024
  rw [key, IntKind.wrap_i64]
  omega
theorem fin_ok {f : Fld} (h : valid f = 0) : fin f = f := by unfold fin; rw [if_pos h]
theorem quaR_val {f : Fld} (h : valid f = 0) : quaR f = (quaF f, 0) := by rw [quaR_ok h, valid_qua h, fin_ok (valid_qua h)]
theorem mirR_val {f : Fld} (h : valid f = 0) : mirR f = (mirF f, 0) := by rw [mirR_ok h, valid_mir h, fin_ok (valid_mir h)]
/-- A field after so many quarter turns. -/
def qn : Nat → Fld → Fld
  | 0, f => f
  | n + 1, f => quaF (qn n f)
theorem valid_qn {f : Fld} (h : valid f = 0) (n : Nat) : valid (qn n f) = 0 := by
  induction n with
  | zero => exact h
  | succ n ih => exact valid_qua ih
theorem Box.fz4 {W : World} {B : Nat} (h : ∀ i, W.frozen? ⟨B, i, none⟩ = false) (a b c d : Value) : ∀ i, ((((W.setCell ⟨B, 0, none⟩ a).setCell ⟨B, 1, none⟩ b).setCell ⟨B, 2, none⟩ c).setCell ⟨B, 3, none⟩ d).frozen? ⟨B, i, none⟩ = false := fun i => by
  rw [World.frozen?_setCell, World.frozen?_setCell, World.frozen?_setCell, World.frozen?_setCell]; exact h i
theorem FV.In.far {w : World} {u : FV} (h : u.In w) {B : Nat} (hb : ∀ p, u.A = some p → p.block < B) (hb2 : ∀ p, u.B = some p → p.block < B) {w' : World} (hw : Below B w w') : u.In w' := by
  have ext : ∀ {A : Option Addr} {sz n : Nat} {xs : List Value}, (∀ p, A = some p → p.block < B) → Reads w w.heap.size sz A n xs → Reads w' w'.heap.size sz A n xs := by
    intro A sz n xs hA hr
    refine ⟨hr.len, fun h0 => ?_⟩
    obtain ⟨p, hp, hlt, hc⟩ := hr.look h0
    refine ⟨p, hp, Nat.lt_of_lt_of_le hlt hw.size, fun j u hu => ?_⟩
    rw [hw.cell (p := p.add j) (by rw [blockAdd]; exact hA p hp)]
    exact hc j u hu
  exact ⟨ext hb h.ds, ext hb2 h.ps, h.nb, h.mb⟩

set_option maxHeartbeats 4000000 in
set_option maxRecDepth 100000 in
theorem lawGroup (v : FV) (k : Int) (w : World) (hv : v.In w) :
    Calls Try.prog 15 #[v.val, .int .i64 k] w fun r w' => r = .returned (.bool true) ∧ Below w.heap.size w w' := by
  have HV := Lib.hid hv
  clear hv
  go_enter Try.func15, Try.ntmps15
  dsimp only [FV.val, eval_]
  go_wp2_with fail
  with_reducible refine (long_any v _ (HV.out.below (belowA _ _))).mono ?_
  rintro r w1 ⟨rfl, hb1⟩
  have bv := (Box.new w #[.int .i64 v.f.W, .int .i64 v.f.H, .slice v.A v.n v.c, .slice v.B v.m v.d] 25).below hb1
  have hw := Lib.hid (below1 _ hb1)
  clear hb1
  cases hlong : longF v.f
  case true =>
    go_wp2_with fail
    with_reducible refine (known_any _).mono ?_
    rintro r w2 ⟨rfl, hb2⟩
    go_wp2_with fail
    go_ret
    exact ⟨rfl, below_trans' hw.out hb2⟩
  replace HV := Lib.hid (HV.out.below hw.out)
  clear hlong
  have c0 := bv.at
  go_wp2_with fail
  clear c0
  with_reducible refine (validate_any v _ HV.out).mono ?_
  rintro r w2 ⟨rfl, hb⟩
  replace bv := bv.below hb
  replace hw := Lib.hid (below_trans' hw.out hb)
  replace HV := Lib.hid (HV.out.below hb)
  clear hb
  by_cases hz : valid v.f = 0
  case neg =>
    have hz' : (valid v.f != 0) = true := by simpa using hz
    clear hz
    go_wp2_with fail
    with_reducible refine (known_any _).mono ?_
    rintro r w2 ⟨rfl, hb2⟩
    have HB := Lib.hid hb2
    clear hb2
    go_wp2_with fail
    go_ret
    exact ⟨rfl, below_trans' hw.out HB.out⟩
  have HZ := Lib.hid hz
  rw [hz]
  clear hz
  have c0 := bv.at
  go_wp2_with fail
  clear c0
  with_reducible refine (Quarter_any v _ HV.out).mono ?_
  rintro r w3 ⟨q, hqf, rfl, ho, hb⟩
  rw [quaR_val HZ.out] at hqf ⊢
  dsimp only at hqf ⊢
  have Hq := Lib.hid hqf
  have Iq := Lib.hid ho.In
  replace bv := bv.below hb
  replace hw := Lib.hid (below_trans' hw.out hb)
  replace HV := Lib.hid (HV.out.below hb)
  have HVA := Lib.hid (fun p (hp : q.A = some p) => (ho.blkA hp).2)
  have HVB := Lib.hid (fun p (hp : q.B = some p) => (ho.blkB hp).2)
  clear hb ho hqf
  dsimp only [FV.val]
  go_wp2_with fail
  have bq := (Box.new w3 #[.int .i64 q.f.W, .int .i64 q.f.H, .slice q.A q.n q.c, .slice q.B q.m q.d] 25).alloc (.cells #[.int .i64 q.f.W, .int .i64 q.f.H, .slice q.A q.n q.c, .slice q.B q.m q.d] 25)
  have b7 := Box.new2 w3 #[.int .i64 q.f.W, .int .i64 q.f.H, .slice q.A q.n q.c, .slice q.B q.m q.d] #[.int .i64 q.f.W, .int .i64 q.f.H, .slice q.A q.n q.c, .slice q.B q.m q.d] 25 25
  have f7 : ∀ i, ((w3.alloc (.cells #[.int .i64 q.f.W, .int .i64 q.f.H, .slice q.A q.n q.c, .slice q.B q.m q.d] 25)).alloc (.cells #[.int .i64 q.f.W, .int .i64 q.f.H, .slice q.A q.n q.c, .slice q.B q.m q.d] 25)).frozen? ⟨w3.heap.size + 1, i, none⟩ = false := by
    have := fz_new (w3.alloc (.cells #[.int .i64 q.f.W, .int .i64 q.f.H, .slice q.A q.n q.c, .slice q.B q.m q.d] 25)) #[.int .i64 q.f.W, .int .i64 q.f.H, .slice q.A q.n q.c, .slice q.B q.m q.d] 25
    rw [World.size_alloc] at this; exact this
  have h34 := Lib.hid (belowAA w3 (.cells #[.int .i64 q.f.W, .int .i64 q.f.H, .slice q.A q.n q.c, .slice q.B q.m q.d] 25) (.cells #[.int .i64 q.f.W, .int .i64 q.f.H, .slice q.A q.n q.c, .slice q.B q.m q.d] 25))
  have Iq4 := Lib.hid (Iq.out.below h34.out)
  have hsz : w3.heap.size + 2 ≤ ((w3.alloc (.cells #[.int .i64 q.f.W, .int .i64 q.f.H, .slice q.A q.n q.c, .slice q.B q.m q.d] 25)).alloc (.cells #[.int .i64 q.f.W, .int .i64 q.f.H, .slice q.A q.n q.c, .slice q.B q.m q.d] 25)).heap.size := by simp
  generalize (w3.alloc (.cells #[.int .i64 q.f.W, .int .i64 q.f.H, .slice q.A q.n q.c, .slice q.B q.m q.d] 25)).alloc (.cells #[.int .i64 q.f.W, .int .i64 q.f.H, .slice q.A q.n q.c, .slice q.B q.m q.d] 25) = w4 at bq b7 f7 h34 Iq4 hsz ⊢
  go_loopw [8] (fun i wr => ∃ j : Nat, j ≤ 3 ∧ i = .int .i64 j ∧ (∃ u : FV, u.f = qn (j + 1) v.f ∧ u.In wr ∧ Box wr (w3.heap.size + 1) #[.int .i64 u.f.W, .int .i64 u.f.H, .slice u.A u.n u.c, .slice u.B u.m u.d]) ∧ (∀ i, wr.frozen? ⟨w3.heap.size + 1, i, none⟩ = false) ∧ Below (w3.heap.size + 1) w4 wr) (fun i _ => 3 - (intOf i).toNat)
  case atStart => exact ⟨0, by omega, rfl, ⟨q, Hq.out, Iq4.out, b7⟩, f7, Below.refl _ _⟩
  case round =>
    clear b7 f7
    obtain ⟨j, hj, rfl, ⟨u, huf, hui, b7⟩, f7, hbr⟩ := hrel
    have HU := Lib.hid huf
    have HUI := Lib.hid hui
    have HBR := Lib.hid hbr
    clear huf hui
    by_cases hlt : j < 3
    · have c0 := b7.at
      clear hbr
      go_wp2_with fail
      clear c0
      with_reducible refine (Quarter_any u _ HUI.out).mono ?_
      rintro r w5 ⟨x, hxf, rfl, ho, hb⟩
      have hvq := valid_qn HZ.out (j + 1)
      rw [← HU.out] at hvq
      rw [quaR_val hvq] at hxf ⊢
      dsimp only at hxf ⊢
      have HX := Lib.hid (show x.f = qn (j + 1 + 1) v.f by rw [hxf, HU.out]; rfl)
      have f6 := fz_below b7.1 f7 hb
      replace b7 := b7.below hb
      have f8 := fz_below b7.1 f6 (belowA w5 (.cells #[.int .i64 x.f.W, .int .i64 x.f.H, .slice x.A x.n x.c, .slice x.B x.m x.d] 25))
      replace b7 := b7.alloc (.cells #[.int .i64 x.f.W, .int .i64 x.f.H, .slice x.A x.n x.c, .slice x.B x.m x.d] 25)
      have hr : w3.heap.size + 1 ≤ wr.heap.size := by have := HBR.out.size; omega
      have HB5 := Lib.hid (HBR.out.trans ((below_trans' hb (belowA w5 (.cells #[.int .i64 x.f.W, .int .i64 x.f.H, .slice x.A x.n x.c, .slice x.B x.m x.d] 25))).mono hr))
      have HXA := Lib.hid (fun p (hp : x.A = some p) => ho.blkA hp)
      have HXB := Lib.hid (fun p (hp : x.B = some p) => ho.blkB hp)
      have HXO := Lib.hid ho
      clear hb ho hxf f7 hvq f6
      dsimp only [FV.val]
      have c7 := b7.at
      go_wp2_with fail
      go_roundw
      case rel =>
        refine ⟨j + 1, by omega, by go_num, ⟨x, HX.out, ?_, b7.four _ _ _ _⟩, Box.fz4 f8 _ _ _ _, ?_⟩
        · have h1 : ∀ i p, x.A = some p → p.block ≠ (⟨w3.heap.size + 1, i, none⟩ : Addr).block := fun i p hp => by have := (HXA.out p hp).1; show p.block ≠ w3.heap.size + 1; have := HBR.out.size; omega
          have h2 : ∀ i p, x.B = some p → p.block ≠ (⟨w3.heap.size + 1, i, none⟩ : Addr).block := fun i p hp => by have := (HXB.out p hp).1; show p.block ≠ w3.heap.size + 1; have := HBR.out.size; omega
          exact (((((HXO.out.on (belowA w5 (.cells #[.int .i64 x.f.W, .int .i64 x.f.H, .slice x.A x.n x.c, .slice x.B x.m x.d] 25))).far (h1 0) (h2 0) _).far (h1 1) (h2 1) _).far (h1 2) (h2 2) _).far (h1 3) (h2 3) _).In
        · exact (((HB5.out.setCell (p := ⟨w3.heap.size + 1, 0, none⟩) (Nat.le_refl _) _).setCell (p := ⟨w3.heap.size + 1, 1, none⟩) (Nat.le_refl _) _).setCell (p := ⟨w3.heap.size + 1, 2, none⟩) (Nat.le_refl _) _).setCell (p := ⟨w3.heap.size + 1, 3, none⟩) (Nat.le_refl _) _
      case measure => simp [intOf]; omega
    · obtain rfl : j = 3 := by omega
      have hb3 := h34.out.trans (hbr.mono (Nat.le_succ w3.heap.size))
      replace bv := bv.below hb3
      replace bq := bq.under hbr (by omega)
      replace HV := Lib.hid (HV.out.below hb3)
      replace hw := Lib.hid (below_trans' hw.out hb3)
      replace Iq := Lib.hid (Iq.out.below hb3)
      have Iu := HUI
      clear HUI
      replace Iq4 := True.intro
      replace h34 := True.intro
      replace HBR := True.intro
      have hsl : w3.heap.size + 1 < wr.heap.size := b7.1
      replace HU := Lib.hid (show u.f = v.f from HU.out.trans (qua_four HZ.out))
      clear hb3 hbr f7 hsz hj hlt
      obtain ⟨M, hM⟩ : ∃ M, M = bits .and .i64 k 1023 := ⟨_, rfl⟩
      have hk0 : 0 ≤ bits .and .i64 k 1023 := by rw [i64_and1023]; omega
      have hk1 : bits .and .i64 k 1023 ≤ 1023 := by rw [i64_and1023]; omega

      have cc := bv.at
      try dsimp only [FV.val]
      go_wp2_with fail
      clear cc
      with_reducible refine (Mirror_any v  _ HV.out).mono ?_
      rintro r w10 ⟨m, haf, rfl, ho, hb⟩
      rw [mirR_val HZ.out] at haf ⊢
      dsimp only at haf ⊢
      replace bv := bv.below hb
      replace bq := bq.below hb
      replace b7 := b7.below hb
      replace hw := Lib.hid (below_trans' hw.out hb)
      replace HV := Lib.hid (HV.out.below hb)
      replace Iq := Lib.hid (Iq.out.below hb)
      replace Iu := Lib.hid (Iu.out.below hb)
      have Im := Lib.hid ho.In
      have Hm := Lib.hid (show m.f = mirF v.f from haf)
      have Vm := Lib.hid (show valid m.f = 0 by rw [Hm.out]; exact valid_mir HZ.out)
      clear hb haf ho
      have cc := True.intro
      try dsimp only [FV.val]
      go_wp2_with fail
      clear cc
      with_reducible refine (Mirror_any m  _ (Im.out.below (belowA _ _))).mono ?_
      rintro r w11 ⟨t, haf, rfl, ho, hb⟩
      rw [mirR_val Vm.out] at haf ⊢
      dsimp only at haf ⊢
      have bm := (Box.new w10 #[.int .i64 m.f.W, .int .i64 m.f.H, .slice m.A m.n m.c, .slice m.B m.m m.d] 25).below hb
      replace bv := (bv.alloc (.cells #[.int .i64 m.f.W, .int .i64 m.f.H, .slice m.A m.n m.c, .slice m.B m.m m.d] 25)).below hb
      replace bq := (bq.alloc (.cells #[.int .i64 m.f.W, .int .i64 m.f.H, .slice m.A m.n m.c, .slice m.B m.m m.d] 25)).below hb
      replace b7 := (b7.alloc (.cells #[.int .i64 m.f.W, .int .i64 m.f.H, .slice m.A m.n m.c, .slice m.B m.m m.d] 25)).below hb
      replace hb := below1 _ hb
      replace hw := Lib.hid (below_trans' hw.out hb)
      replace HV := Lib.hid (HV.out.below hb)
      replace Iq := Lib.hid (Iq.out.below hb)
      replace Iu := Lib.hid (Iu.out.below hb)
      replace Im := Lib.hid (Im.out.below hb)
      have It := Lib.hid ho.In
      have Ht := Lib.hid (show t.f = mirF m.f from haf)
      clear hb haf ho
      have cc := fun o => (bv.alloc o).at
      try dsimp only [FV.val]
      go_wp2_with fail
      clear cc
      with_reducible refine (Spin_any v (bits .and .i64 k 1023) _ (HV.out.below (belowA _ _))).mono ?_
      rintro r w12 ⟨s, haf, rfl, ho, hb⟩
      rw [spinR_ok HZ.out] at haf ⊢
      dsimp only at haf ⊢
      have bt := (Box.new w11 #[.int .i64 t.f.W, .int .i64 t.f.H, .slice t.A t.n t.c, .slice t.B t.m t.d] 25).below hb
      replace bv := (bv.alloc (.cells #[.int .i64 t.f.W, .int .i64 t.f.H, .slice t.A t.n t.c, .slice t.B t.m t.d] 25)).below hb
      replace bq := (bq.alloc (.cells #[.int .i64 t.f.W, .int .i64 t.f.H, .slice t.A t.n t.c, .slice t.B t.m t.d] 25)).below hb
      replace b7 := (b7.alloc (.cells #[.int .i64 t.f.W, .int .i64 t.f.H, .slice t.A t.n t.c, .slice t.B t.m t.d] 25)).below hb
      replace bm := (bm.alloc (.cells #[.int .i64 t.f.W, .int .i64 t.f.H, .slice t.A t.n t.c, .slice t.B t.m t.d] 25)).below hb
      replace hb := below1 _ hb
      replace hw := Lib.hid (below_trans' hw.out hb)
      replace HV := Lib.hid (HV.out.below hb)
      replace Iq := Lib.hid (Iq.out.below hb)
      replace Iu := Lib.hid (Iu.out.below hb)
      replace Im := Lib.hid (Im.out.below hb)
      replace It := Lib.hid (It.out.below hb)
      have Is := Lib.hid ho.In
      have Hs := Lib.hid (show s.f = spinF v.f (bits .and .i64 k 1023) from haf)
      have Vs := Lib.hid (show valid s.f = 0 by rw [Hs.out]; exact valid_spin HZ.out _)
      clear hb haf ho
      have cc := True.intro
      try dsimp only [FV.val]
      go_wp2_with fail
      clear cc
      with_reducible refine (Spin_any s (-(bits .and .i64 k 1023)) _ (Is.out.below (belowA _ _))).mono ?_
      rintro r w13 ⟨b, haf, rfl, ho, hb⟩
      rw [spinR_ok Vs.out] at haf ⊢
      dsimp only at haf ⊢
      have bs := (Box.new w12 #[.int .i64 s.f.W, .int .i64 s.f.H, .slice s.A s.n s.c, .slice s.B s.m s.d] 25).below hb
      replace bv := (bv.alloc (.cells #[.int .i64 s.f.W, .int .i64 s.f.H, .slice s.A s.n s.c, .slice s.B s.m s.d] 25)).below hb
      replace bq := (bq.alloc (.cells #[.int .i64 s.f.W, .int .i64 s.f.H, .slice s.A s.n s.c, .slice s.B s.m s.d] 25)).below hb
      replace b7 := (b7.alloc (.cells #[.int .i64 s.f.W, .int .i64 s.f.H, .slice s.A s.n s.c, .slice s.B s.m s.d] 25)).below hb
      replace bm := (bm.alloc (.cells #[.int .i64 s.f.W, .int .i64 s.f.H, .slice s.A s.n s.c, .slice s.B s.m s.d] 25)).below hb
      replace bt := (bt.alloc (.cells #[.int .i64 s.f.W, .int .i64 s.f.H, .slice s.A s.n s.c, .slice s.B s.m s.d] 25)).below hb
      replace hb := below1 _ hb
      replace hw := Lib.hid (below_trans' hw.out hb)
      replace HV := Lib.hid (HV.out.below hb)
      replace Iq := Lib.hid (Iq.out.below hb)
      replace Iu := Lib.hid (Iu.out.below hb)
      replace Im := Lib.hid (Im.out.below hb)
      replace It := Lib.hid (It.out.below hb)
      replace Is := Lib.hid (Is.out.below hb)
      have Ib := Lib.hid ho.In
      have Hb := Lib.hid (show b.f = spinF s.f (-(bits .and .i64 k 1023)) from haf)
      clear hb haf ho
      have cc := fun o => (bv.alloc o).at
      try dsimp only [FV.val]
      go_wp2_with fail
      clear cc
      with_reducible refine (total_any v _ (HV.out.below (belowA _ _))).mono ?_
      rintro r w14 ⟨rfl, hb⟩
      have bb := (Box.new w13 #[.int .i64 b.f.W, .int .i64 b.f.H, .slice b.A b.n b.c, .slice b.B b.m b.d] 25).below hb
      replace bv := (bv.alloc (.cells #[.int .i64 b.f.W, .int .i64 b.f.H, .slice b.A b.n b.c, .slice b.B b.m b.d] 25)).below hb
      replace bq := (bq.alloc (.cells #[.int .i64 b.f.W, .int .i64 b.f.H, .slice b.A b.n b.c, .slice b.B b.m b.d] 25)).below hb
      replace b7 := (b7.alloc (.cells #[.int .i64 b.f.W, .int .i64 b.f.H, .slice b.A b.n b.c, .slice b.B b.m b.d] 25)).below hb
      replace bm := (bm.alloc (.cells #[.int .i64 b.f.W, .int .i64 b.f.H, .slice b.A b.n b.c, .slice b.B b.m b.d] 25)).below hb
      replace bt := (bt.alloc (.cells #[.int .i64 b.f.W, .int .i64 b.f.H, .slice b.A b.n b.c, .slice b.B b.m b.d] 25)).below hb
      replace bs := (bs.alloc (.cells #[.int .i64 b.f.W, .int .i64 b.f.H, .slice b.A b.n b.c, .slice b.B b.m b.d] 25)).below hb
      replace hb := below1 _ hb
      replace hw := Lib.hid (below_trans' hw.out hb)
      replace HV := Lib.hid (HV.out.below hb)
      replace Iq := Lib.hid (Iq.out.below hb)
      replace Iu := Lib.hid (Iu.out.below hb)
      replace Im := Lib.hid (Im.out.below hb)
      replace It := Lib.hid (It.out.below hb)
      replace Is := Lib.hid (Is.out.below hb)
      replace Ib := Lib.hid (Ib.out.below hb)
      clear hb
      generalize htt : tot (whorls v.f) = T
      have HT := Lib.hid htt
      clear htt
      have c1 := b7.at
      have c2 := bv.at
      try dsimp only [FV.val]
      go_wp2_with fail
      clear c1 c2
      with_reducible refine (same_any u v _ Iu.out HV.out).mono ?_
      rintro r w15 ⟨rfl, hb⟩
      rw [show sameF u.f v.f = true by rw [HU.out]; exact sameF_refl _]
      replace bv := bv.below hb
      replace bq := bq.below hb
      replace b7 := b7.below hb
      replace bm := bm.below hb
      replace bt := bt.below hb
      replace bs := bs.below hb
      replace bb := bb.below hb
      replace hw := Lib.hid (below_trans' hw.out hb)
      replace HV := Lib.hid (HV.out.below hb)
      replace Iq := Lib.hid (Iq.out.below hb)
      replace Iu := Lib.hid (Iu.out.below hb)
      replace Im := Lib.hid (Im.out.below hb)
      replace It := Lib.hid (It.out.below hb)
      replace Is := Lib.hid (Is.out.below hb)
      replace Ib := Lib.hid (Ib.out.below hb)
      clear hb
      have c1 := bt.at
      have c2 := bv.at
      try dsimp only [FV.val]
      go_wp2_with fail
      clear c1 c2
      with_reducible refine (same_any t v _ It.out HV.out).mono ?_
      rintro r w16 ⟨rfl, hb⟩
      rw [show sameF t.f v.f = true by rw [show t.f = v.f by rw [Ht.out, Hm.out, mir_two HZ.out]]; exact sameF_refl _]
      replace bv := bv.below hb
      replace bq := bq.below hb
      replace b7 := b7.below hb
      replace bm := bm.below hb
      replace bt := bt.below hb
      replace bs := bs.below hb
      replace bb := bb.below hb
      replace hw := Lib.hid (below_trans' hw.out hb)
      replace HV := Lib.hid (HV.out.below hb)
      replace Iq := Lib.hid (Iq.out.below hb)
      replace Iu := Lib.hid (Iu.out.below hb)
      replace Im := Lib.hid (Im.out.below hb)
      replace It := Lib.hid (It.out.below hb)
      replace Is := Lib.hid (Is.out.below hb)
      replace Ib := Lib.hid (Ib.out.below hb)
      clear hb
      have c1 := bb.at
      have c2 := bv.at
      try dsimp only [FV.val]
      go_wp2_with fail
      clear c1 c2
      with_reducible refine (same_any b v _ Ib.out HV.out).mono ?_
      rintro r w17 ⟨rfl, hb⟩
      rw [show sameF b.f v.f = true by rw [show b.f = v.f by rw [Hb.out, Hs.out, spin_back HZ.out]]; exact sameF_refl _]
      replace bv := bv.below hb
      replace bq := bq.below hb
      replace b7 := b7.below hb
      replace bm := bm.below hb
      replace bt := bt.below hb
      replace bs := bs.below hb
      replace bb := bb.below hb
      replace hw := Lib.hid (below_trans' hw.out hb)
      replace HV := Lib.hid (HV.out.below hb)
      replace Iq := Lib.hid (Iq.out.below hb)
      replace Iu := Lib.hid (Iu.out.below hb)
      replace Im := Lib.hid (Im.out.below hb)
      replace It := Lib.hid (It.out.below hb)
      replace Is := Lib.hid (Is.out.below hb)
      replace Ib := Lib.hid (Ib.out.below hb)
      clear hb
      have c1 := bq.at
      have c2 := bv.at
      try dsimp only [FV.val]
      go_wp2_with fail
      clear c1 c2
      with_reducible refine (total_any q _ Iq.out).mono ?_
      rintro r w18 ⟨rfl, hb⟩
      rw [show tot (whorls q.f) = T by rw [Hq.out, tot_qua HZ.out, HT.out]]
      replace bv := bv.below hb
      replace bq := bq.below hb
      replace b7 := b7.below hb
      replace bm := bm.below hb
      replace bt := bt.below hb
      replace bs := bs.below hb
      replace bb := bb.below hb
      replace hw := Lib.hid (below_trans' hw.out hb)
      replace HV := Lib.hid (HV.out.below hb)
      replace Iq := Lib.hid (Iq.out.below hb)
      replace Iu := Lib.hid (Iu.out.below hb)
      replace Im := Lib.hid (Im.out.below hb)
      replace It := Lib.hid (It.out.below hb)
      replace Is := Lib.hid (Is.out.below hb)
      replace Ib := Lib.hid (Ib.out.below hb)
      clear hb
      have c1 := bm.at
      have c2 := bv.at
      try dsimp only [FV.val]
      go_wp2_with fail
      clear c1 c2
      with_reducible refine (total_any m _ Im.out).mono ?_
      rintro r w19 ⟨rfl, hb⟩
      rw [show tot (whorls m.f) = T by rw [Hm.out, tot_mir HZ.out, HT.out]]
      replace bv := bv.below hb
      replace bq := bq.below hb
      replace b7 := b7.below hb
      replace bm := bm.below hb
      replace bt := bt.below hb
      replace bs := bs.below hb
      replace bb := bb.below hb
      replace hw := Lib.hid (below_trans' hw.out hb)
      replace HV := Lib.hid (HV.out.below hb)
      replace Iq := Lib.hid (Iq.out.below hb)
      replace Iu := Lib.hid (Iu.out.below hb)
      replace Im := Lib.hid (Im.out.below hb)
      replace It := Lib.hid (It.out.below hb)
      replace Is := Lib.hid (Is.out.below hb)
      replace Ib := Lib.hid (Ib.out.below hb)
      clear hb
      have c1 := bs.at
      have c2 := bv.at
      try dsimp only [FV.val]
      go_wp2_with fail
      clear c1 c2
      with_reducible refine (total_any s _ Is.out).mono ?_
      rintro r w20 ⟨rfl, hb⟩
      rw [show tot (whorls s.f) = T by rw [Hs.out, tot_spin HZ.out, HT.out]]
      replace bv := bv.below hb
      replace bq := bq.below hb
      replace b7 := b7.below hb
      replace bm := bm.below hb
      replace bt := bt.below hb
      replace bs := bs.below hb
      replace bb := bb.below hb
      replace hw := Lib.hid (below_trans' hw.out hb)
      replace HV := Lib.hid (HV.out.below hb)
      replace Iq := Lib.hid (Iq.out.below hb)
      replace Iu := Lib.hid (Iu.out.below hb)
      replace Im := Lib.hid (Im.out.below hb)
      replace It := Lib.hid (It.out.below hb)
      replace Is := Lib.hid (Is.out.below hb)
      replace Ib := Lib.hid (Ib.out.below hb)
      clear hb
      go_wp2_with fail
      with_reducible refine (known_any _).mono ?_
      rintro r wz ⟨rfl, hb⟩
      have HB := Lib.hid hb
      clear hb
      go_wp2_with fail
      go_ret
      exact ⟨rfl, below_trans' hw.out HB.out⟩
theorem lawGroupR (v : FV) (k : Int) (w : World) (hv : v.In w) {p1 : Prop} (_ : p1) :
    Calls Try.prog 15 #[v.val, .int .i64 k] w fun r w' => r = .returned (.bool true) ∧ Below w.heap.size w w' := lawGroup v k w hv
end Go.Proofs.Ytahmdnboeenfkaa
