/- Walks: the text of a field, the program's. -/
import Derived.Test.YtfaleddacmbidaaDoorWb
import Derived.Test.YtfaleddacmbidaaDoorW7
namespace Go.Proofs.YtfaleddacmbidaaDoor
open Go.RowKit Go.Sort

def hdT (f : Fld) : List UInt8 := [102, 108, 111, 119, 32] ++ Lib.itoa f.W ++ [32] ++ Lib.itoa f.H ++ [32]
def preT (f : Fld) (k : Nat) : List UInt8 := hdT f ++ dirsF f.W 0 (f.ds.take k)
def postT (f : Fld) (k : Nat) : List UInt8 := hdT f ++ dirsF f.W 0 f.ds ++ (f.ps.take k).flatMap fun e => 32 :: bodyE e
theorem join_flat (b : UInt8) (x : List UInt8) (l : List (List UInt8)) : join b (x :: l) = x ++ l.flatMap fun w => b :: w := by
  induction l generalizing x with
  | nil => simp [join]
  | cons y l ih => rw [join_cons b x (by simp), ih, List.flatMap_cons]; simp
theorem post_all (f : Fld) : postT f f.ps.length = fmtL f := by
  unfold postT fmtL pieces
  rw [List.take_length]
  simp only [List.cons_append, List.nil_append]
  rw [join_flat]
  simp only [List.flatMap_cons, List.flatMap_map, hdT, headF]
  simp
theorem pre_zero (f : Fld) : preT f 0 = hdT f := by simp [preT, dirsF]
theorem pre_all (f : Fld) : preT f f.ds.length = postT f 0 := by simp [preT, postT]
theorem pre_succ {f : Fld} {k : Nat} {d : Int} (h : f.ds[k]? = some d) : preT f (k + 1) = preT f k ++ ((if 0 < k ∧ (k : Int) % f.W = 0 then [47] else []) ++ [dgt d]) := by
  have hk : k < f.ds.length := (List.getElem?_eq_some_iff.1 h).1
  unfold preT
  rw [take_succ_of h, dirsF_append, List.length_take, Nat.zero_add, Nat.min_eq_left (by omega), List.append_assoc]
theorem post_succ {f : Fld} {k : Nat} {e : Edg} (h : f.ps[k]? = some e) : postT f (k + 1) = postT f k ++ 32 :: bodyE e := by
  unfold postT
  rw [take_succ_of h, List.flatMap_append]
  simp
theorem dirs_len (W : Int) (l : List Int) : ∀ i, (dirsF W i l).length ≤ 2 * l.length := by
  induction l with
  | nil => intro i; simp [dirsF]
  | cons d l ih =>
    intro i
    have := ih (i + 1)
    simp only [dirsF, List.length_append, List.length_cons]
    split <;> simp <;> omega
theorem ds_len {f : Fld} (h : Okf f) : f.ds.length ≤ 144 := by
  have h1 := h.len
  have : f.W * f.H ≤ 12 * 12 := Int.mul_le_mul h.w2 h.h2 (by have := h.h1; omega) (by omega)
  omega
theorem hd_len {f : Fld} (h : Okf f) : (hdT f).length ≤ 11 := by
  have a := itoa_len2 (n := f.W) (by have := h.w1; omega) (by have := h.w2; omega)
  have b := itoa_len2 (n := f.H) (by have := h.h1; omega) (by have := h.h2; omega)
  simp [hdT]
  omega
theorem pre_len {f : Fld} (h : Okf f) (k : Nat) : (preT f k).length ≤ 400 := by
  have a := hd_len h
  have b := dirs_len f.W (f.ds.take k) 0
  have c := ds_len h
  have d := List.length_take_le k f.ds
  simp only [preT, List.length_append]
  rw [List.length_take] at b
  omega
theorem body_len {e : Edg} (h : (0 ≤ e.1 ∧ e.1 ≤ 99) ∧ (0 ≤ e.2.1 ∧ e.2.1 ≤ 99) ∧ 0 ≤ e.2.2 ∧ e.2.2 ≤ 99) : (bodyE e).length ≤ 8 := by
  have a := itoa_len2 h.1.1 h.1.2
  have b := itoa_len2 h.2.1.1 h.2.1.2
  have c := itoa_len2 h.2.2.1 h.2.2.2
  show (Lib.itoa e.1 ++ 44 :: (Lib.itoa e.2.1 ++ 44 :: Lib.itoa e.2.2)).length ≤ 8
  simp
  omega
theorem flat_len : ∀ {l : List Edg}, (∀ e ∈ l, (bodyE e).length ≤ 8) → (l.flatMap fun e => 32 :: bodyE e).length ≤ 9 * l.length
  | [], _ => Nat.le_refl _
  | e :: l, h => by
    have h1 := h e (by simp)
    have h2 := flat_len (l := l) fun x hx => h x (by simp [hx])
    simp only [List.flatMap_cons, List.length_append, List.length_cons] at *
    omega
theorem post_len {f : Fld} (h : Okf f) (k : Nat) : (postT f k).length ≤ 1000 := by
  have a := hd_len h
  have b := dirs_len f.W f.ds 0
  have c := ds_len h
  have d := flat_len (l := f.ps.take k) fun e he => body_len (okf_bd h (List.mem_of_mem_take he))
  have e := h.cnt
  have g := List.length_take_le k f.ps
  simp only [postT, List.length_append]
  rw [List.length_take] at d
  omega
theorem wb47 (B b : Nat) (l : List UInt8) (w : World) (h : isB w B b l) (hlen : l.length + 1 ≤ 1000000) (hBw : B ≤ w.heap.size) :
    Calls Tryd.prog 16 #[.pointer (some ⟨b, 0, none⟩), .int .u8 47] w fun e w' => e = .returned .nilIface ∧ isB w' B b (l ++ [47]) ∧ Below B w w' ∧ Lib.OthersKept 5 (some b) w w' := wb_any B b l 47 w h hlen hBw
def fmtX (f : Fld) : List UInt8 := if valid f = 0 then fmtL f else []
theorem fmt_len {f : Fld} (h : Okf f) : (fmtL f).length ≤ 1000 := by rw [← post_all]; exact post_len h _
set_option maxRecDepth 100000 in
set_option maxHeartbeats 4000000 in
theorem Format_any (v : FV) (w : World) (hv : v.In w) :
    Calls Tryd.prog 6 #[v.val] w fun r w' => r = .returned (.tuple #[.string ⟨(fmtX v.f).toArray⟩, .int .i64 (valid v.f)]) ∧ Below w.heap.size w w' := by
  have HV := Lib.hid hv
  clear hv
  go_enter Tryd.func6, Tryd.ntmps6
  dsimp only [FV.val]
  go_wp2_with fail
  obtain ⟨q, hq⟩ : ∃ q, w.heap.size = q := ⟨_, rfl⟩
  have HA : Hid (At (w.alloc (.cells #[.int .i64 v.f.W, .int .i64 v.f.H, .slice v.A v.n v.c, .slice v.B v.m v.d] 25)) q #[.int .i64 v.f.W, .int .i64 v.f.H, .slice v.A v.n v.c, .slice v.B v.m v.d] 25) := Lib.hid (by rw [← hq]; exact heap_alloc_new w _)
  have HW := Lib.hid (belowA w (.cells #[.int .i64 v.f.W, .int .i64 v.f.H, .slice v.A v.n v.c, .slice v.B v.m v.d] 25))
  have HQ := Lib.hid hq
  rw [hq]
  clear hq
  generalize (w.alloc (.cells #[.int .i64 v.f.W, .int .i64 v.f.H, .slice v.A v.n v.c, .slice v.B v.m v.d] 25)) = w1 at HA HW ⊢
  with_reducible refine (validate_any v _ (HV.out.below HW.out)).mono ?_
  rintro _ w2 ⟨rfl, hb2⟩
  have HA2 := Lib.hid (HA.out.below hb2)
  have HW2 := Lib.hid (below_trans' HW.out hb2)
  clear hb2 HA HW
  by_cases hval : valid v.f = 0
  case neg =>
    have g : (valid v.f != 0) = true := by simpa using hval
    have HF := Lib.hid (show fmtX v.f = [] from if_neg hval)
    clear hval
    go_wp2_with fail
    go_ret2
    exact ⟨by rw [HF.out]; rfl, HW2.out⟩
  have HF := Lib.hid (show fmtX v.f = fmtL v.f from if_pos hval)
  have HOK := Lib.hid (okf_of_valid hval)
  have HV0 := Lib.hid hval
  rw [hval]
  clear hval
  have ca := HA2.out.box.at
  go_wp2_with fail
  obtain ⟨b, hb⟩ : ∃ b, w2.heap.size = b := ⟨_, rfl⟩
  have HB : Hid (isB (w2.alloc (.cells #[.pointer none, .slice none 0 0] 42)) b b []) := Lib.hid (by rw [← hb]; exact isB_new w2)
  have HA3 := Lib.hid (HA2.out.below (belowA w2 (.cells #[.pointer none, .slice none 0 0] 42)))
  have HW3 := Lib.hid (below_trans' HW2.out (belowA w2 (.cells #[.pointer none, .slice none 0 0] 42)))
  have HQB : Hid (q < b ∧ w.heap.size ≤ b) := Lib.hid ⟨by rw [← hb]; exact (Array.getElem?_eq_some_iff.1 HA2.out).1, by rw [← hb]; exact HW2.out.size⟩
  have HSB : Hid (b ≤ (w2.alloc (.cells #[.pointer none, .slice none 0 0] 42)).heap.size) := Lib.hid (by rw [← hb]; simp)
  rw [hb]
  clear hb ca HA2 HW2
  generalize (w2.alloc (.cells #[.pointer none, .slice none 0 0] 42)) = w3 at HB HA3 HW3 HSB ⊢
  have cr := HA3.out.box.rg
  have W0 := HOK.out.w1
  have W1 := HOK.out.w2
  have H0 := HOK.out.h1
  have H1 := HOK.out.h2
  have Q1 : Hid (∀ w', Below w3.heap.size w3 w' → Calls Tryd.prog 15 #[.int .i64 v.f.W] w' fun r w'' => r = .returned (.string ⟨(Lib.itoa v.f.W).toArray⟩) ∧ Below w'.heap.size w' w'') := Lib.hid fun w' _ => (itoa_any _ _ (by omega) (by omega)).mono fun r w'' ⟨h1, h2⟩ => ⟨h1, by rw [h2]; exact Below.refl _ _⟩
  have Q2 : Hid (∀ w', Below w3.heap.size w3 w' → Calls Tryd.prog 15 #[.int .i64 v.f.H] w' fun r w'' => r = .returned (.string ⟨(Lib.itoa v.f.H).toArray⟩) ∧ Below w'.heap.size w' w'') := Lib.hid fun w' _ => (itoa_any _ _ (by omega) (by omega)).mono fun r w'' ⟨h1, h2⟩ => ⟨h1, by rw [h2]; exact Below.refl _ _⟩
  have HLW := itoa_len2 (n := v.f.W) (by omega) (by omega)
  have HLH := itoa_len2 (n := v.f.H) (by omega) (by omega)
  refine wp_region_mid 10 mixed (by kernel_rfl) rfl ?_
  simp only [List.take_succ_cons, List.take_zero, List.drop_succ_cons, List.drop_zero]
  repeat (go_big_quiet_step (first | with_reducible exact rg_call Q1.out _ _ | with_reducible exact rg_call Q2.out _ _))
  refine wpQuiet_nil ?_
  intro w4 hb4
  have HB4 : Hid (isB w4 b b []) := Lib.hid (isB_below HB.out hb4)
  have HA4 := Lib.hid (HA3.out.below hb4)
  have HW4 := Lib.hid (below_trans' HW3.out hb4)
  have HS4 : Hid (b ≤ w4.heap.size) := Lib.hid (Nat.le_trans HSB.out hb4.size)
  clear hb4 cr Q1 Q2 HB HA3 HW3 HSB
  go_wp2_with fail
  obtain ⟨t, ht⟩ : ∃ t, (⟨#[102, 108, 111, 119, 32]⟩ : ByteArray) ++ (⟨(Lib.itoa v.f.W).toArray⟩ : ByteArray) ++ (⟨#[32]⟩ : ByteArray) ++ (⟨(Lib.itoa v.f.H).toArray⟩ : ByteArray) ++ (⟨#[32]⟩ : ByteArray) = t := ⟨_, rfl⟩
  have HT : Hid (t.data.toList = hdT v.f) := Lib.hid (by rw [← ht]; simp [hdT])
  have hts : t.size ≤ 20 := by
    have h1 := congrArg List.length HT.out
    have h2 := hd_len HOK.out
    have h3 : t.data.toList.length = t.size := by simp
    omega
  rw [ht]
  clear ht HLW HLH
  with_reducible refine (ws_any b b [] t w4 HB4.out (by simp; omega) HS4.out).mono ?_
  rintro _ w5 ⟨⟨n1, rfl⟩, hbu5, hb5, hk5⟩
  go_wp2_with fail
  simp only [Thn]
  refine wpQuiet_nil ?_
  intro w6 hb6
  rw [List.nil_append, HT.out, ← pre_zero] at hbu5
  have HB6 : Hid (isB w6 b b (preT v.f 0)) := Lib.hid (isB_below hbu5 hb6)
  have HA6 := Lib.hid ((HA4.out.kept hk5 (by have := HQB.out; omega) (by decide)).below hb6)
  have HW6 := Lib.hid (below_trans' ((HW4.out.trans (hb5.mono HQB.out.2))) hb6)
  have HS6 : Hid (b ≤ w6.heap.size) := Lib.hid (Nat.le_trans HS4.out (Nat.le_trans hb5.size hb6.size))
  clear hbu5 hb5 hk5 hb6 HB4 HA4 HW4 HS4 HT hts
  have ca := HA6.out.box.at
  go_wp2_with fail
  have l1 := (HV.out.below HW6.out).l1
  have l2 := (HV.out.below HW6.out).l2
  have hn144 : v.n ≤ 144 := by have := ds_len HOK.out; omega
  go_loopw [29] (fun i wr => ∃ k : Nat, k ≤ v.n ∧ i = .int .i64 k ∧ isB wr b b (preT v.f k) ∧ At wr q #[.int .i64 v.f.W, .int .i64 v.f.H, .slice v.A v.n v.c, .slice v.B v.m v.d] 25 ∧ Below w.heap.size w wr ∧ b ≤ wr.heap.size) (fun i _ => v.n - (intOf i).toNat)
  case atStart => exact ⟨0, by omega, rfl, HB6.out, HA6.out, HW6.out, HS6.out⟩
  case round =>
    clear HB6 HA6 HW6 HS6 ca
    obtain ⟨k, hk, rfl, hbu, hat, hbw, hsz⟩ := hrel
    have HB := Lib.hid hbu
    have HA := Lib.hid hat
    have HW := Lib.hid hbw
    have HS := Lib.hid hsz
    clear hbu hat hbw hsz
    have ca := HA.out.box.at
    by_cases hlt : k < v.n
    · obtain ⟨ad, d, e1, hbk, hd, d0⟩ := (HV.out.below HW.out).dsAt (k := k) (by omega)
      have X := fun w => ix22 (c := v.c) e1 hlt w
      have HPS := Lib.hid (pre_succ hd)
      obtain ⟨g0, g7⟩ := HOK.out.dir d (List.mem_of_getElem? hd)
      have hwr : IntKind.u8.wrap (48 + d) = ((dgt d).toNat : Int) := by rw [dgt_nat g0 g7, IntKind.wrap_u8]; omega
      have hpl := pre_len HOK.out k
      have hmod : (k : Int).tmod v.f.W = (k : Int) % v.f.W := Int.tmod_eq_emod_of_nonneg (by omega)
      clear hd e1
      rcases (show (0 < k ∧ (k : Int) % v.f.W = 0) ∨ (¬ (0 < k) ∨ (0 < k ∧ ¬ (k : Int) % v.f.W = 0)) by omega) with hc | hc
      · have hk0 : (0 : Int) < (k : Int) := by omega
        have gm : ((k : Int) % v.f.W == 0) = true := by simpa using hc.2
        have HPS2 : Hid (preT v.f (k + 1) = (preT v.f k ++ [47]) ++ [dgt d]) := Lib.hid (by rw [HPS.out, if_pos hc, List.append_assoc])
        clear hc HPS
        go_wp2_with fail
        with_reducible refine (wb47 b b _ _ HB.out (by omega) HS.out).mono ?_
        rintro _ w7 ⟨rfl, hbu7, hb7, hk7⟩
        have hbk7 : ad.block < w.heap.size ∨ True := .inr trivial
        replace HB := Lib.hid hbu7
        replace HA := Lib.hid (HA.out.kept hk7 (by have := HQB.out; omega) (by decide))
        replace HW := Lib.hid (HW.out.trans (hb7.mono HQB.out.2))
        replace HS : Hid (b ≤ w7.heap.size) := Lib.hid (Nat.le_trans HS.out hb7.size)
        replace ca := HA.out.box.at
        have HPS := HPS2
        have hpl2 : (preT v.f k ++ [47]).length + 1 ≤ 1000000 := by simp; omega
        clear hbu7 hb7 hk7 HPS2 d0 X hbk7
        go_wp2_with fail
        with_reducible refine (wb_any b b _ (dgt d) _ HB.out hpl2 HS.out).mono ?_
        rintro _ w8 ⟨rfl, hbu8, hb8, hk8⟩
        have HB8 : Hid (isB w8 b b (preT v.f (k + 1))) := Lib.hid (by rw [HPS.out]; exact hbu8)
        have HA8 := Lib.hid (HA.out.kept hk8 (by have := HQB.out; omega) (by decide))
        have HW8 := Lib.hid (HW.out.trans (hb8.mono HQB.out.2))
        have HS8 : Hid (b ≤ w8.heap.size) := Lib.hid (Nat.le_trans HS.out hb8.size)
        clear hbu8 hb8 hk8 HB HA HW HS
        go_wp2_with fail
        go_roundw
        case rel => exact ⟨k + 1, by omega, by go_num, HB8.out, HA8.out, HW8.out, HS8.out⟩
        case measure => simp [intOf]; omega
      · rcases hc with hc | hc
        · have hk0 : ¬ (0 : Int) < (k : Int) := by omega
          have HPS2 : Hid (preT v.f (k + 1) = preT v.f k ++ [dgt d]) := Lib.hid (by rw [HPS.out, if_neg (by omega), List.nil_append])
          have HPS := HPS2
          clear hc HPS2
          go_wp2_with fail
          with_reducible refine (wb_any b b _ (dgt d) _ HB.out (by omega) HS.out).mono ?_
          rintro _ w8 ⟨rfl, hbu8, hb8, hk8⟩
          have HB8 : Hid (isB w8 b b (preT v.f (k + 1))) := Lib.hid (by rw [HPS.out]; exact hbu8)
          have HA8 := Lib.hid (HA.out.kept hk8 (by have := HQB.out; omega) (by decide))
          have HW8 := Lib.hid (HW.out.trans (hb8.mono HQB.out.2))
          have HS8 : Hid (b ≤ w8.heap.size) := Lib.hid (Nat.le_trans HS.out hb8.size)
          clear hbu8 hb8 hk8 HB HA HW HS d0 X
          go_wp2_with fail
          go_roundw
          case rel => exact ⟨k + 1, by omega, by go_num, HB8.out, HA8.out, HW8.out, HS8.out⟩
          case measure => simp [intOf]; omega
        · have hk0 : (0 : Int) < (k : Int) := by omega
          have gm : ((k : Int) % v.f.W == 0) = false := by simpa using hc.2
          have HPS2 : Hid (preT v.f (k + 1) = preT v.f k ++ [dgt d]) := Lib.hid (by rw [HPS.out, if_neg (by omega), List.nil_append])
          have HPS := HPS2
          clear hc HPS2
          go_wp2_with fail
          with_reducible refine (wb_any b b _ (dgt d) _ HB.out (by omega) HS.out).mono ?_
          rintro _ w8 ⟨rfl, hbu8, hb8, hk8⟩
          have HB8 : Hid (isB w8 b b (preT v.f (k + 1))) := Lib.hid (by rw [HPS.out]; exact hbu8)
          have HA8 := Lib.hid (HA.out.kept hk8 (by have := HQB.out; omega) (by decide))
          have HW8 := Lib.hid (HW.out.trans (hb8.mono HQB.out.2))
          have HS8 : Hid (b ≤ w8.heap.size) := Lib.hid (Nat.le_trans HS.out hb8.size)
          clear hbu8 hb8 hk8 HB HA HW HS d0 X
          go_wp2_with fail
          go_roundw
          case rel => exact ⟨k + 1, by omega, by go_num, HB8.out, HA8.out, HW8.out, HS8.out⟩
          case measure => simp [intOf]; omega
    · have hkn : k = v.n := by omega
      subst hkn
      have HP := Lib.hid (pre_all v.f)
      have hlen : v.f.ds.length = v.n := by omega
      rw [hlen] at HP
      replace HB : Hid (isB wr b b (postT v.f 0)) := Lib.hid (by rw [← HP.out]; exact HB.out)
      clear HP hlen hlt
      go_wp2_with fail
      have p1 := (HV.out.below HW.out).l2
      have hm60 : v.m ≤ 60 := by have := HOK.out.cnt; omega
      go_loopw [52] (fun i wr => ∃ k : Nat, k ≤ v.m ∧ i = .int .i64 k ∧ isB wr b b (postT v.f k) ∧ Below w.heap.size w wr ∧ b ≤ wr.heap.size) (fun i _ => v.m - (intOf i).toNat)
      case atStart => exact ⟨0, by omega, rfl, HB.out, HW.out, HS.out⟩
      case round =>
        clear HB HA HW HS ca
        obtain ⟨k, hk, rfl, hbu, hbw, hsz⟩ := hrel
        have HB := Lib.hid hbu
        have HW := Lib.hid hbw
        have HS := Lib.hid hsz
        clear hbu hbw hsz
        by_cases hlt : k < v.m
        · obtain ⟨ad, e, e1, hbk, he, d0, d1, d2⟩ := (HV.out.below HW.out).psAt (k := k) (by omega)
          have X := fun w => ix23 (c := v.d) e1 hlt w
          have HPS := Lib.hid (post_succ he)
          obtain ⟨⟨b0, b1⟩, ⟨b2, b3⟩, b4, b5⟩ := okf_bd HOK.out (List.mem_of_getElem? he)
          have hpl := post_len HOK.out k
          clear he e1
          go_wp2_with fail
          obtain ⟨p, hp⟩ : ∃ p, wr.heap.size = p := ⟨_, rfl⟩
          have HE : Hid (Box (wr.alloc (.cells #[.int .i64 e.1, .int .i64 e.2.1, .int .i64 e.2.2] 50)) p #[.int .i64 e.1, .int .i64 e.2.1, .int .i64 e.2.2]) := Lib.hid (by rw [← hp]; exact Box.new _ _ _)
          have HB7 : Hid (isB (wr.alloc (.cells #[.int .i64 e.1, .int .i64 e.2.1, .int .i64 e.2.2] 50)) b b (postT v.f k)) := Lib.hid (isB_below HB.out (belowA _ _))
          have HW7 := Lib.hid (below_trans' HW.out (belowA wr (.cells #[.int .i64 e.1, .int .i64 e.2.1, .int .i64 e.2.2] 50)))
          have HS7 : Hid (b ≤ (wr.alloc (.cells #[.int .i64 e.1, .int .i64 e.2.1, .int .i64 e.2.2] 50)).heap.size) := Lib.hid (by have := HS.out; simp; omega)
          rw [hp]
          clear hp HB HW HS d0 d1 d2 X hbk
          generalize (wr.alloc (.cells #[.int .i64 e.1, .int .i64 e.2.1, .int .i64 e.2.2] 50)) = w7 at HE HB7 HW7 HS7 ⊢
          have cr := HE.out.rg
          have Q1 : Hid (∀ w', Below w7.heap.size w7 w' → Calls Tryd.prog 15 #[.int .i64 e.1] w' fun r w'' => r = .returned (.string ⟨(Lib.itoa e.1).toArray⟩) ∧ Below w'.heap.size w' w'') := Lib.hid fun w' _ => (itoa_any _ _ b0 b1).mono fun r w'' ⟨h1, h2⟩ => ⟨h1, by rw [h2]; exact Below.refl _ _⟩
          have Q2 : Hid (∀ w', Below w7.heap.size w7 w' → Calls Tryd.prog 15 #[.int .i64 e.2.1] w' fun r w'' => r = .returned (.string ⟨(Lib.itoa e.2.1).toArray⟩) ∧ Below w'.heap.size w' w'') := Lib.hid fun w' _ => (itoa_any _ _ b2 b3).mono fun r w'' ⟨h1, h2⟩ => ⟨h1, by rw [h2]; exact Below.refl _ _⟩
          have Q3 : Hid (∀ w', Below w7.heap.size w7 w' → Calls Tryd.prog 15 #[.int .i64 e.2.2] w' fun r w'' => r = .returned (.string ⟨(Lib.itoa e.2.2).toArray⟩) ∧ Below w'.heap.size w' w'') := Lib.hid fun w' _ => (itoa_any _ _ b4 b5).mono fun r w'' ⟨h1, h2⟩ => ⟨h1, by rw [h2]; exact Below.refl _ _⟩
          have L1 := itoa_len2 b0 b1
          have L2 := itoa_len2 b2 b3
          have L3 := itoa_len2 b4 b5
          refine wp_region_mid 14 mixed (by kernel_rfl) rfl ?_
          simp only [List.take_succ_cons, List.take_zero, List.drop_succ_cons, List.drop_zero]
          repeat (go_big_quiet_step (first | with_reducible exact rg_call Q1.out _ _ | with_reducible exact rg_call Q2.out _ _ | with_reducible exact rg_call Q3.out _ _))
          refine wpQuiet_nil ?_
          intro w8 hb8
          have HB8 : Hid (isB w8 b b (postT v.f k)) := Lib.hid (isB_below HB7.out hb8)
          have HW8 := Lib.hid (below_trans' HW7.out hb8)
          have HS8 : Hid (b ≤ w8.heap.size) := Lib.hid (Nat.le_trans HS7.out hb8.size)
          clear hb8 cr Q1 Q2 Q3 HB7 HW7 HS7 HE
          go_wp2_with fail
          obtain ⟨t, ht⟩ : ∃ t, (⟨#[32]⟩ : ByteArray) ++ (⟨(Lib.itoa e.1).toArray⟩ : ByteArray) ++ (⟨#[44]⟩ : ByteArray) ++ (⟨(Lib.itoa e.2.1).toArray⟩ : ByteArray) ++ (⟨#[44]⟩ : ByteArray) ++ (⟨(Lib.itoa e.2.2).toArray⟩ : ByteArray) = t := ⟨_, rfl⟩
          have HT : Hid (t.data.toList = 32 :: bodyE e) := Lib.hid (by rw [← ht]; simp [bodyE, join])
          have hts : t.size ≤ 20 := by
            have h1 := congrArg List.length HT.out
            have h2 := body_len ⟨⟨b0, b1⟩, ⟨b2, b3⟩, b4, b5⟩
            have h3 : t.data.toList.length = t.size := by simp
            simp only [List.length_cons] at h1
            omega
          rw [ht]
          clear ht L1 L2 L3
          with_reducible refine (ws_any b b _ t w8 HB8.out (by omega) HS8.out).mono ?_
          rintro _ w9 ⟨⟨n9, rfl⟩, hbu9, hb9, hk9⟩
          go_wp2_with fail
          simp only [Thn]
          refine wpQuiet_nil ?_
          intro w10 hb10
          rw [HT.out, ← HPS.out] at hbu9
          have HB10 : Hid (isB w10 b b (postT v.f (k + 1))) := Lib.hid (isB_below hbu9 hb10)
          have HW10 := Lib.hid (below_trans' ((HW8.out.trans (hb9.mono HQB.out.2))) hb10)
          have HS10 : Hid (b ≤ w10.heap.size) := Lib.hid (Nat.le_trans HS8.out (Nat.le_trans hb9.size hb10.size))
          clear hbu9 hb9 hk9 hb10 HB8 HW8 HS8 HT hts
          go_wp2_with fail
          go_roundw
          case rel => exact ⟨k + 1, by omega, by go_num, HB10.out, HW10.out, HS10.out⟩
          case measure => simp [intOf]; omega
        · have hkm : k = v.m := by omega
          subst hkm
          have HP := Lib.hid (post_all v.f)
          have hlen : v.f.ps.length = v.m := by omega
          rw [hlen] at HP
          clear hlen hlt
          go_wp2_with fail
          with_reducible refine (bs_str b b _ _ HB.out HS.out).mono ?_
          rintro _ w7 ⟨rfl, hb7⟩
          rw [HP.out, ← HF.out]
          have HW7 := Lib.hid (HW.out.trans (hb7.mono HQB.out.2))
          clear hb7
          go_wp2_with fail
          go_ret2
          exact ⟨by rw [HV0.out]; rfl, HW7.out⟩
end Go.Proofs.YtfaleddacmbidaaDoor
