/- Merged texts: Yb Yc Yd Ye -/
import Derived.Test.YtihhclhpjgeniaaGreatDoorSA8
import Derived.Test.YtihhclhpjgeniaaGreatDoorSA43
import Derived.Defers
namespace Go.Proofs.YtihhclhpjgeniaaGreatDoor
open Go.RowKit Go.Sort Go.MuLone
structure Gl (m : Int) (w : World) : Prop where
  t : Tab w
  m : w.cell? ⟨1, 0, none⟩ = some (.int .i64 m)
  g : 8 ≤ w.heap.size
theorem Gl.b8 {m : Int} {w w' : World} (h : Gl m w) (hb : Below 8 w w') : Gl m w' :=
  ⟨tab_kept h.t hb (by decide), by rw [← h.m]; unfold World.cell?; rw [hb.block 1 (by decide)], Nat.le_trans h.g hb.size⟩
theorem Gl.below {m : Int} {w w' : World} (h : Gl m w) (hb : Below w.heap.size w w') : Gl m w' := h.b8 (hb.mono h.g)
theorem Rs.b8 {v v' : RV} {s : Int} {p : Nat} {w w' : World} (h : v.In s p w) (hr : Rs p v w v' w') (hg : 8 ≤ w.heap.size) : Below 8 w w' :=
  ⟨hr.kp.os, hr.kp.tape, hr.kp.output, hr.kp.size, fun b hb => hr.kp.block b (Nat.lt_of_lt_of_le hb hg) fun hf => by have := h.g b (.inl hf); omega⟩
theorem doO_zero_or (r : Rm) (o : Ordr) : (doO r o).1 = 0 ∨ (doO r o).2 = r := by
  unfold doO
  split
  · unfold buyR; (repeat' split) <;> simp
  · unfold mixR; (repeat' split) <;> simp
  · unfold drawR; (repeat' split) <;> simp
  · unfold hackR; (repeat' split) <;> simp
  · unfold turnR; (repeat' split) <;> simp
  · unfold snapR; (repeat' split) <;> simp
  · unfold beginR; (repeat' split) <;> simp
  · unfold knotR; (repeat' split) <;> simp
  · unfold lendR; (repeat' split) <;> simp
  · unfold backR; (repeat' split) <;> simp
  · unfold mendR; (repeat' split) <;> simp
  · unfold sellR; (repeat' split) <;> simp
  · unfold claimR; (repeat' split) <;> simp
  · unfold workR writeR; (repeat' split) <;> simp
  · simp
theorem RV.In.lock {v : RV} {s : Int} {p : Nat} {w : World} (h : v.In s p w) (s' : Int) : v.In s' p (w.setCell ⟨p, 0, none⟩ (.int .i32 s')) ∧ Rs p v w v (w.setCell ⟨p, 0, none⟩ (.int .i32 s')) :=
  h.setN (v' := v) (s' := s') 0 (.int .i32 s') rfl ⟨rfl, rfl, rfl, rfl⟩ ⟨rfl, rfl, rfl, rfl⟩ ⟨rfl, rfl, rfl⟩
theorem unlock_door {fn : Func} {R : Ending → World → Prop} {tmps : Array Value} {W : World} {p : Nat} {r : Value} (hc : W.cell? ⟨p, 0, none⟩ = some (.int .i32 1)) (hf : W.frozen? ⟨p, 0, none⟩ = false)
    (hres : (results fn tmps).run Tryz.prog (W.setCell ⟨p, 0, none⟩ (.int .i32 0)) = .ok r (W.setCell ⟨p, 0, none⟩ (.int .i32 0))) (hR : R (.returned r) (W.setCell ⟨p, 0, none⟩ (.int .i32 0))) :
    bodyPostD Tryz.prog fn R Exit.ret { tmps := tmps, defers := [{ target := .fn (.func 55) #[], args := #[.pointer (some ⟨p, 0, none⟩)] }] } W := by
  refine leaves_cons (f := 55) (args := #[.pointer (some ⟨p, 0, none⟩)]) (by simp) (by simp [go_sem]) ?_
  refine (unlock_deferred muLib ⟨p, 0, none⟩ .returning W hc hf).mono ?_
  rintro e u' w'' ⟨rfl, rfl, rfl⟩
  exact ⟨_, hres, hR⟩
theorem do_door {v v' : RV} {p : Nat} {w W : World} {tmps : Array Value} {s : List UInt8} {e : Int} (hi : v'.In 1 p W) (hr : Rs p v w v' W) (hd : doR s v.rm = (e, v'.rm)) (ht : tmps.getD 4 undef = .int .i64 e) :
    bodyPostD Tryz.prog Tryz.f22 (RetO v 0 p w (doR s v.rm)) Exit.ret { tmps := tmps, defers := [{ target := .fn (.func 55) #[], args := #[.pointer (some ⟨p, 0, none⟩)] }] } W := by
  obtain ⟨a, b⟩ := hi.lock 0
  refine unlock_door (At.cell hi.room 0) (hi.room.fz 0) (results_tmp rfl _ _ _) ?_
  rw [ht, hd]
  exact ⟨rfl, v', rfl, a, hr.trans b⟩
theorem enter_do {o : Ordr} (h : OrdS o) (args : Array Value) (w : World) : (callFunc (doF o.kind) args).run Tryz.prog w = .ok (.enter (doF o.kind) args) w := by
  cases h with
  | nccc k n a b c hk =>
    rcases hk with rfl | rfl
    · exact run_callFunc_enter Tryz.func156 rfl rfl args w
    · exact run_callFunc_enter Tryz.func159 rfl rfl args w
  | nn => exact run_callFunc_enter Tryz.func157 rfl rfl args w
  | ncn => exact run_callFunc_enter Tryz.func158 rfl rfl args w
  | nc k n a hk =>
    rcases hk with rfl | rfl | rfl | rfl | rfl
    · exact run_callFunc_enter Tryz.func159 rfl rfl args w
    · exact run_callFunc_enter Tryz.func161 rfl rfl args w
    · exact run_callFunc_enter Tryz.func162 rfl rfl args w
    · exact run_callFunc_enter Tryz.func164 rfl rfl args w
    · exact run_callFunc_enter Tryz.func166 rfl rfl args w
  | n k n hk =>
    rcases hk with rfl | rfl | rfl | rfl | rfl | rfl
    · exact run_callFunc_enter Tryz.func159 rfl rfl args w
    · exact run_callFunc_enter Tryz.func162 rfl rfl args w
    · exact run_callFunc_enter Tryz.func162 rfl rfl args w
    · exact run_callFunc_enter Tryz.func162 rfl rfl args w
    · exact run_callFunc_enter Tryz.func163 rfl rfl args w
    · exact run_callFunc_enter Tryz.func167 rfl rfl args w
  | nncc => exact run_callFunc_enter Tryz.func160 rfl rfl args w
  | ncc => exact run_callFunc_enter Tryz.func162 rfl rfl args w
  | ns => exact run_callFunc_enter Tryz.func162 rfl rfl args w
  | nnc => exact run_callFunc_enter Tryz.func165 rfl rfl args w
set_option maxRecDepth 100000 in
set_option maxHeartbeats 1000000 in
theorem new_any (w : World) (hg : 8 ≤ w.heap.size) : Calls Tryz.prog 33 #[] w fun r w' => ∃ (v : RV) (p : Nat), r = .returned (.pointer (some ⟨p, 0, none⟩)) ∧ v.rm = rm0 ∧ v.In 0 p w' ∧ (∀ k, v.F p k ∨ v.C k → w.heap.size ≤ k) ∧ Below w.heap.size w w' := by
  have hmm : ∀ (t : TypeId) (w : World), (Instr.makeMap t none).run Tryz.prog w = .ok (.map (some w.heap.size)) (w.alloc (.map #[] 0)) := fun _ _ => rfl
  go_enter Tryz.func33, Tryz.ntmps33
  go_wp2_with fail
  go_ret
  have hu := UsedIn.new w
  have hb := belowA w (.map #[] 0)
  have hN : (w.alloc (.map #[] 0)).heap.size = w.heap.size + 1 := World.size_alloc _ _
  have hk := At.new (w.alloc (.map #[] 0)) #[.int .i32 0, .int .u32 0, .slice none 0 0, .slice none 0 0, .map (some w.heap.size), .int .i64 0, .int .i64 0, .int .i64 0, .slice none 0 0] 109
  have hb2 := belowA (w.alloc (.map #[] 0)) (.cells #[.int .i32 0, .int .u32 0, .slice none 0 0, .slice none 0 0, .map (some w.heap.size), .int .i64 0, .int .i64 0, .int .i64 0, .slice none 0 0] 109)
  rw [hN] at hk
  have hF : ∀ k, (⟨none, 0, none, 0, none, 0, w.heap.size, [], [], [], 0, 0, 0, []⟩ : RV).F (w.heap.size + 1) k → w.heap.size ≤ k := by
    rintro k (rfl | rfl | ⟨a, ha, _⟩ | ⟨a, ha, _⟩ | ⟨a, ha, _⟩)
    · omega
    · exact Nat.le_refl _
    · cases ha
    · cases ha
    · cases ha
  have hC : ∀ k, ¬ (⟨none, 0, none, 0, none, 0, w.heap.size, [], [], [], 0, 0, 0, []⟩ : RV).C k := by
    rintro k (⟨b, hb, _⟩ | ⟨b, hb, _⟩) <;> cases hb
  refine ⟨⟨none, 0, none, 0, none, 0, w.heap.size, [], [], [], 0, 0, 0, []⟩, w.heap.size + 1, rfl, rfl, ⟨hk, World.ownsRow_nil _ _ _ _, World.ownsRow_nil _ _ _ _, World.ownsRow_nil _ _ _ _, hu.kp (Kp.of (S := fun _ => False) hb2) (fun e => e), (fun b hb => (by cases hb)), (fun b hb => (by cases hb)), fun k hk => absurd hk (hC k), fun k hk => ?_⟩, fun k hk => ?_, below_trans' hb hb2⟩
  · rcases hk with hk | hk
    · have := hF k hk; omega
    · exact absurd hk (hC k)
  · rcases hk with hk | hk
    · exact hF k hk
    · exact absurd hk (hC k)
set_option maxRecDepth 100000 in
set_option maxHeartbeats 1000000 in
theorem do_any (v : RV) (p : Nat) (s : List UInt8) (m : Int) (w : World) (h : v.In 0 p w) (hg : v.rm.Good) (hgl : Gl m w) :
    Calls Tryz.prog 22 #[.pointer (some ⟨p, 0, none⟩), .string (mkB s)] w (RetO v 0 p w (doR s v.rm)) := by
  have H := Lib.hid h
  have HG := Lib.hid hg
  have HGL := Lib.hid hgl
  have h1 : w.cell? ⟨p, 0, none⟩ = some (.int .i32 0) := At.cell h.room 0
  have f1 : w.frozen? ⟨p, 0, none⟩ = false := h.room.fz 0
  obtain ⟨l1, l2⟩ := h.lock 1
  have g1 := hgl.b8 (l2.b8 h hgl.g)
  have HL1 := Lib.hid l1
  have HL2 := Lib.hid l2
  have HG1 := Lib.hid g1
  clear h hg hgl l1 l2 g1
  go_enter_defers Tryz.func22, Tryz.ntmps22
  go_wp2_with (go_at_call 54; refine (lock_free muLib ⟨p, 0, none⟩ _ h1 f1).mono ?_; rintro e w' ⟨rfl, rfl⟩)
  clear h1 f1
  generalize w.setCell ⟨p, 0, none⟩ (.int .i32 1) = w1 at HL1 HL2 HG1 ⊢
  with_reducible refine (parseT_any s m w1 HG1.out.m HG1.out.g).mono ?_
  rintro r w2 ⟨hr, hb2⟩
  have B2 := Lib.hid hb2
  have HL3 := Lib.hid (HL1.out.below hb2)
  have HR3 := Lib.hid (HL2.out.grow hb2)
  have HG3 := Lib.hid (HG1.out.below hb2)
  have HW1 : Hid (∀ k, v.F p k → k < w1.heap.size) := Lib.hid (fun k hk => HL1.out.lt (.inl hk))
  clear hb2 HL1 HL2 HG1
  have n1 := fun (w : World) (a : Addr) => run_store Tryz.prog w a .nilFunc .plain rfl
  have n2 := fun (w : World) (a : Addr) (f : Fn) (x y : Array Value) => run_store Tryz.prog w a (.func f x y) .plain rfl
  cases hp : parseO s with
  | none =>
    rw [hp] at hr
    subst hr
    have HD : Hid (doR s v.rm = (3, v.rm)) := Lib.hid (by unfold doR; rw [hp])
    clear hp
    go_wp2_with fail
    exact do_door (HL3.out.below (belowA _ _)) (HR3.out.grow (belowA _ _)) HD.out rfl
  | some o =>
    rw [hp] at hr
    obtain ⟨x, rfl, hf, rfl, hx, hxn⟩ := hr
    have HP := Lib.hid hp
    clear hp
    have HX := Lib.hid hx
    have HF := Lib.hid hf
    have HXF : Hid (∀ k, blk x.A x.n k ∨ blk x.B x.m k → ¬ v.F p k) := Lib.hid (fun k hk hf => by have h1 := hxn k hk; have h2 := HW1.out k hf; omega)
    clear hx hf hxn HW1
    rw [show x.arr = #[.int .i64 x.o.kind, .string (mkB x.form), .func (.func (doF x.o.kind)) #[] #[], .slice x.A x.n x.c, .string (mkB x.o.style), .slice x.B x.m x.d] from by rw [← HF.out]]
    have c8 : (w2.alloc (.cells #[.int .i64 x.o.kind, .string (mkB x.form), .func (.func (doF x.o.kind)) #[] #[], .slice x.A x.n x.c, .string (mkB x.o.style), .slice x.B x.m x.d] 114)).cell? ⟨p, 8, none⟩ = some (.slice v.E v.day.length v.ce) := At.cell (HL3.out.below (belowA w2 _)).room 8
    have hday : v.rm.day = v.day := rfl
    by_cases h300 : 300 ≤ v.day.length
    · have h300' : (300 : Int) ≤ (v.day.length : Int) := by omega
      have HD : Hid (doR s v.rm = (4, v.rm)) := Lib.hid (by unfold doR; rw [HP.out]; exact if_pos h300)
      go_wp2_with fail
      exact do_door (HL3.out.below (belowA _ _)) (HR3.out.grow (belowA _ _)) HD.out rfl
    have h300' : ¬ (300 : Int) ≤ (v.day.length : Int) := by omega
    have HD : Hid (doR s v.rm = if (doO v.rm x.o).1 ≠ 0 then ((doO v.rm x.o).1, v.rm) else (0, { (doO v.rm x.o).2 with day := (doO v.rm x.o).2.day ++ [s] })) := Lib.hid (by unfold doR; rw [HP.out]; exact if_neg h300)
    clear hday h300
    obtain ⟨q1, _, q2⟩ := parseO_form HP.out
    have hcf := fun args w => enter_do q1 args w
    have HQ := Lib.hid q1
    have HSH := Lib.hid (parseO_short HP.out)
    clear q1 q2
    go_wp2_with fail
    clear c8 hcf
    rw [← HF.out]
    have HL4 := Lib.hid (HL3.out.below (belowA w2 (.cells x.arr 114)))
    have HX4 := Lib.hid (HX.out.below (belowA w2 (.cells x.arr 114)))
    have HG4 := Lib.hid (HG3.out.below (belowA w2 (.cells x.arr 114)))
    have HR4 := Lib.hid (HR3.out.grow (belowA w2 (.cells x.arr 114)))
    with_reducible refine (doO_any v 1 p x _ HL4.out HX4.out HXF.out HQ.out HSH.out HG4.out.t HG.out).mono ?_
    rintro _ w5 ⟨rfl, v1, hrm, hi, hrs⟩
    have HI5 := Lib.hid hi
    have HR5 := Lib.hid (HR4.out.trans hrs)
    have HRM := Lib.hid hrm
    clear hi hrs hrm HL3 HX HG3 HR3 HL4 HX4 HG4 HR4
    obtain ⟨e, he⟩ : ∃ e, (doO v.rm x.o).1 = e := ⟨_, rfl⟩
    have HE := Lib.hid he
    rw [he] at HD ⊢
    clear he
    by_cases h0 : e = 0
    rotate_left
    · have HR : Hid (v1.rm = v.rm) := Lib.hid (HRM.out.trans ((doO_zero_or v.rm x.o).resolve_left (by rw [HE.out]; exact h0)))
      have HD2 : Hid (doR s v.rm = (e, v1.rm)) := Lib.hid (by rw [HD.out, if_pos h0, HR.out])
      have h1 : (e != 0) = true := by simpa using h0
      go_wp2_with fail
      exact do_door HI5.out HR5.out HD2.out rfl
    subst h0
    rw [if_neg (by simp)] at HD
    have hd := (doO_stp HG.out.ok HQ.out HE.out).day
    rw [← HRM.out] at HD hd
    have hdl : v1.day.length < 300 := by
      have : v1.day = v.day := hd
      rw [this]; omega
    have HDL := Lib.hid hdl
    clear hd hdl h300'
    have c8 : w5.cell? ⟨p, 8, none⟩ = some (.slice v1.E v1.day.length v1.ce) := At.cell HI5.out.room 8
    have HI6 := Lib.hid (HI5.out.below (belowA w5 (.cells #[.string (mkB s)] 9)))
    have HR6 := Lib.hid (HR5.out.grow (belowA w5 (.cells #[.string (mkB s)] 9)))
    have hrd := reads_new w5 [.string (mkB s)] 9 1 1 rfl
    go_wp2_with (at_builtin; refine wpList_pushXm rfl _ _ 22 9 rfl Tryz.underlying22 info9 rfl (by decide) (by decide) 0 _ v1.E v1.day.length v1.ce (strL v1.day) (some ⟨w5.heap.size, 0, none⟩) 1 1 [.string (mkB s)] rfl HI6.out.rd (Nat.zero_le _) rfl hrd (fun u hu => by rw [List.mem_singleton.1 hu]; rfl) (by have := HDL.out; omega) ?_; intro A' c' X ho hg hl; have kX := HI6.out.room.grown hg (fun e => by obtain ⟨a, ha, hk⟩ := ownb e; exact HI6.out.ne_p.2.2.2 a ha hk); have cX := kX.cell; have fX := kX.fz)
    obtain ⟨r1, r2, r3⟩ := HI6.out.addD s ho hg hl
    refine do_door (v' := { v1 with E := A', ce := c', day := v1.day ++ [s] }) r1 (HR6.out.step r2 (fun x _ e => ?_) (fun j hj => (r3 j hj).imp id fun h => Nat.le_trans HR6.out.kp.size h) (fun j hj => .inl hj)) ?_ rfl
    · rcases e with e | e
      · exact .inl e
      · exact .inr (.inr (.inr (.inr e)))
    · rw [HD.out]
      rfl
end Go.Proofs.YtihhclhpjgeniaaGreatDoor
namespace Go.Proofs.YtihhclhpjgeniaaGreatDoor
open Go.RowKit Go.Sort Go.MuLone
def RetV (v : RV) (p : Nat) (w : World) (u : Value) (r : Ending) (w' : World) : Prop := r = .returned u ∧ v.In 0 p w' ∧ Rs p v w v w'
theorem tell_door {v : RV} {p : Nat} {w W : World} {tmps : Array Value} {fn : Func} {u : Value} {t : Nat} (hfn : fn.results = #[.tmp t]) (hi : v.In 1 p W) (hr : Rs p v w v W) (ht : tmps.getD t undef = u) :
    bodyPostD Tryz.prog fn (RetV v p w u) Exit.ret { tmps := tmps, defers := [{ target := .fn (.func 55) #[], args := #[.pointer (some ⟨p, 0, none⟩)] }] } W := by
  obtain ⟨a, b⟩ := hi.lock 0
  refine unlock_door (At.cell hi.room 0) (hi.room.fz 0) (results_tmp hfn _ _ _) ?_
  rw [ht]
  exact ⟨rfl, a, hr.trans b⟩
set_option maxRecDepth 100000 in
set_option maxHeartbeats 1000000 in
theorem cash1_any (v : RV) (st : Int) (p K : Nat) (w : World) (h : v.In st p w) (hK : At w K #[.pointer (some ⟨p, 0, none⟩)] 25) : Calls Tryz.prog 67 #[.pointer (some ⟨K, 0, none⟩)] w fun r w' => r = .returned (.int .i64 v.cash) ∧ w' = w := by
  have c1 : w.cell? ⟨K, 0, none⟩ = some (.pointer (some ⟨p, 0, none⟩)) := hK.cell 0
  have c2 : w.cell? ⟨p, 7, none⟩ = some (.int .i64 v.cash) := At.cell h.room 7
  clear h hK
  go_enter Tryz.func67, Tryz.ntmps67
  go_wp2_with fail
  go_ret
  exact ⟨rfl, rfl⟩
set_option maxRecDepth 100000 in
set_option maxHeartbeats 1000000 in
theorem told67_any (v : RV) (p K : Nat) (w : World) (h : v.In 0 p w) (hK : At w K #[.pointer (some ⟨p, 0, none⟩)] 25) : Calls Tryz.prog 66 #[.pointer (some ⟨p, 0, none⟩), .func (.func 67) #[] #[.pointer (some ⟨K, 0, none⟩)]] w (RetV v p w (.int .i64 v.cash)) := by
  have h1 : w.cell? ⟨p, 0, none⟩ = some (.int .i32 0) := At.cell h.room 0
  have f1 : w.frozen? ⟨p, 0, none⟩ = false := h.room.fz 0
  obtain ⟨l1, l2⟩ := h.lock 1
  have hpK : K ≠ p := fun e => by
    subst e
    have h2 : w.heap[K]? = _ := hK
    have h3 : w.heap[K]? = _ := h.room
    rw [h2] at h3
    simp at h3
  have HK := Lib.hid (hK.far (p := ⟨p, 0, none⟩) hpK (.int .i32 1))
  have HL1 := Lib.hid l1
  have HL2 := Lib.hid l2
  clear h l1 l2 hK
  go_enter_defers Tryz.func66, Tryz.ntmps66
  go_wp2_with (go_at_call 54; refine (lock_free muLib ⟨p, 0, none⟩ _ h1 f1).mono ?_; rintro e w' ⟨rfl, rfl⟩)
  clear h1 f1
  generalize w.setCell ⟨p, 0, none⟩ (.int .i32 1) = w1 at HL1 HL2 HK ⊢
  with_reducible refine (cash1_any v 1 p K w1 HL1.out HK.out).mono ?_
  rintro _ w2 ⟨rfl, rfl⟩
  go_wp2_with fail
  exact tell_door rfl HL1.out HL2.out rfl
set_option maxRecDepth 100000 in
set_option maxHeartbeats 1000000 in
theorem cash_any (v : RV) (p : Nat) (w : World) (h : v.In 0 p w) : Calls Tryz.prog 27 #[.pointer (some ⟨p, 0, none⟩)] w (RetV v p w (.int .i64 v.cash)) := by
  have hmf : ∀ (fn : Fn) (first cap : Array Value) (w : World), (Instr.makeFunc fn first cap).run Tryz.prog w = .ok (.func fn first cap) w := fun _ _ _ _ => rfl
  have H := Lib.hid (h.below (belowA w (.cells #[.pointer (some ⟨p, 0, none⟩)] 25)))
  have HR := Lib.hid (Rs.below (v := v) (p := p) (belowA w (.cells #[.pointer (some ⟨p, 0, none⟩)] 25)))
  have HK := Lib.hid (At.new w #[.pointer (some ⟨p, 0, none⟩)] 25)
  clear h
  go_enter Tryz.func27, Tryz.ntmps27
  go_wp2_with fail
  with_reducible refine (told67_any v p w.heap.size _ H.out HK.out).mono ?_
  rintro _ w2 ⟨rfl, hi, hr⟩
  have HI := Lib.hid hi
  have HS := Lib.hid (HR.out.trans hr)
  clear hi hr H HK HR
  go_wp2_with fail
  go_ret
  exact ⟨rfl, HI.out, HS.out⟩
end Go.Proofs.YtihhclhpjgeniaaGreatDoor
namespace Go.Proofs.YtihhclhpjgeniaaGreatDoor
open Go.RowKit Go.Sort Go.MuLone
theorem dayT_len {l : List (List UInt8)} (h : ∀ t ∈ l, t.length ≤ 60) : (dayT l).length ≤ 61 * l.length := by
  induction l with
  | nil => simp [dayT]
  | cons t l ih =>
    have h1 := ih fun x hx => h x (List.mem_cons_of_mem _ hx)
    have h2 := h t List.mem_cons_self
    have : dayT (t :: l) = (t ++ [10]) ++ dayT l := by simp [dayT]
    rw [this]
    simp only [List.length_append, List.length_cons, List.length_nil]
    omega
set_option maxRecDepth 100000 in
set_option maxHeartbeats 1000000 in
theorem book_any (v : RV) (st : Int) (p : Nat) (w : World) (h : v.In st p w) (hd : v.day.length ≤ 300) (hs : ∀ t ∈ v.day, t.length ≤ 60) : Calls Tryz.prog 73 #[.pointer (some ⟨p, 0, none⟩)] w fun r w' => r = .returned (.string (mkB (dayT v.day))) ∧ Below w.heap.size w w' := by
  have H := Lib.hid h
  have hb0 := belowA w (.cells #[.pointer none, .slice none 0 0] 192)
  have c8 : (w.alloc (.cells #[.pointer none, .slice none 0 0] 192)).cell? ⟨p, 8, none⟩ = some (.slice v.E v.day.length v.ce) := At.cell (h.below hb0).room 8
  have HB0 := Lib.hid hb0
  have HI0 := Lib.hid (isB_new w)
  clear h hb0
  go_enter Tryz.func73, Tryz.ntmps73
  go_wp2_with fail
  clear c8
  generalize w.alloc (.cells #[.pointer none, .slice none 0 0] 192) = w1 at HB0 HI0 ⊢
  go_loopw [11] (fun i wr => ∃ j : Nat, j ≤ v.day.length ∧ i = .int .i64 j ∧ isB wr w.heap.size w.heap.size (dayT (v.day.take j)) ∧ Below w.heap.size w wr) (fun i _ => v.day.length - (intOf i).toNat)
  case atStart => exact ⟨0, by omega, rfl, HI0.out, HB0.out⟩
  case round =>
    obtain ⟨j, hj, rfl, hi, hb⟩ := hrel
    have HI := Lib.hid hi
    have HB := Lib.hid hb
    clear hi hb HI0 HB0
    by_cases hlt : j < v.day.length
    · have HR := Lib.hid (H.out.below HB.out)
      obtain ⟨g, hg⟩ := own_form HR.out.rd (by omega)
      obtain ⟨t, ht⟩ : ∃ t, v.day[j]? = some t := ⟨v.day[j], List.getElem?_eq_getElem hlt⟩
      have hrd := HR.out.rd
      rw [hg] at hrd
      have ct : wr.cell? ⟨g, j, none⟩ = some (.string (mkB t)) := by
        have := hrd.cellAt j (by omega)
        rw [this]
        simp [strL, ht]
      have htl := hs t (List.mem_of_getElem? ht)
      have hno : ¬ 9223372036854775807 < t.length + 1 := by omega
      have happ : (mkB t ++ ByteArray.mk #[10]) = mkB (t ++ [10]) := mk_append t [10]
      have hlj : (j : Int) < (v.day.length : Int) := by omega
      have HT : Hid (dayT (v.day.take (j + 1)) = dayT (v.day.take j) ++ (t ++ [10])) := Lib.hid (by rw [take_succ_of ht, dayT_snoc])
      have HL := Lib.hid (dayT_len (l := v.day.take j) fun x hx => hs x (List.mem_of_mem_take hx))
      have hlen : (dayT (v.day.take j)).length + (t ++ [10]).length ≤ 1000000 := by
        have h1 := HL.out
        rw [List.length_take] at h1
        rw [List.length_append, List.length_singleton]
        omega
      have v1 : IntKind.i64.wrap ((j : Int) + 1) = ((j + 1 : Nat) : Int) := by rw [IntWalk.i64_in _ (by omega)]; push_cast; rfl
      rw [hg]
      clear hrd ht
      go_wp2_with fail
      refine (ws_any w.heap.size w.heap.size (dayT (v.day.take j)) (t ++ [10]) wr HI.out hlen HB.out.size).mono ?_
      rintro _ w3 ⟨⟨n, rfl⟩, h1, h2, _⟩
      rw [← HT.out] at h1
      have HI3 := Lib.hid h1
      have HB3 := Lib.hid (HB.out.trans h2)
      clear h1 h2 ct happ hno
      go_wp2_with fail
      exact ⟨⟨j + 1, by omega, by go_num, HI3.out, HB3.out⟩, by simp [intOf]; omega⟩
    · have e : v.day.take j = v.day := List.take_of_length_le (by omega)
      rw [e] at HI
      have hlj : ¬ (j : Int) < (v.day.length : Int) := by omega
      go_wp2_with fail
      refine (bs_any w.heap.size w.heap.size (dayT v.day) wr HI.out HB.out.size).mono ?_
      rintro _ w3 ⟨rfl, h2⟩
      have HB3 := Lib.hid (HB.out.trans h2)
      clear h2
      go_wp2_with fail
      go_ret
      exact ⟨rfl, HB3.out⟩
set_option maxRecDepth 100000 in
set_option maxHeartbeats 1000000 in
theorem day_any (v : RV) (p : Nat) (w : World) (h : v.In 0 p w) (hd : v.day.length ≤ 300) (hs : ∀ t ∈ v.day, t.length ≤ 60) : Calls Tryz.prog 36 #[.pointer (some ⟨p, 0, none⟩)] w (RetV v p w (.string (mkB (dayT v.day)))) := by
  have h1 : w.cell? ⟨p, 0, none⟩ = some (.int .i32 0) := At.cell h.room 0
  have f1 : w.frozen? ⟨p, 0, none⟩ = false := h.room.fz 0
  obtain ⟨l1, l2⟩ := h.lock 1
  have HL1 := Lib.hid l1
  have HL2 := Lib.hid l2
  clear h l1 l2
  go_enter_defers Tryz.func36, Tryz.ntmps36
  go_wp2_with (go_at_call 54; refine (lock_free muLib ⟨p, 0, none⟩ _ h1 f1).mono ?_; rintro e w' ⟨rfl, rfl⟩)
  clear h1 f1
  generalize w.setCell ⟨p, 0, none⟩ (.int .i32 1) = w1 at HL1 HL2 ⊢
  with_reducible refine (book_any v 1 p w1 HL1.out hd hs).mono ?_
  rintro _ w2 ⟨rfl, hb⟩
  have HL3 := Lib.hid (HL1.out.below hb)
  have HR3 := Lib.hid (HL2.out.grow hb)
  clear hb HL1 HL2
  go_wp2_with fail
  exact tell_door rfl HL3.out HR3.out rfl
end Go.Proofs.YtihhclhpjgeniaaGreatDoor
namespace Go.Proofs.YtihhclhpjgeniaaGreatDoor
open Go.RowKit Go.Sort Go.MuLone
def errsR : List (List UInt8) → Rm → List Int
  | [], _ => []
  | t :: l, r => (doR t r).1 :: errsR l (doR t r).2
theorem errs_snoc (l : List (List UInt8)) (t : List UInt8) : ∀ r : Rm, errsR (l ++ [t]) r = errsR l r ++ [(doR t (runR l r)).1] := by
  induction l with
  | nil => intro r; rfl
  | cons a l ih =>
    intro r
    show (doR a r).1 :: errsR (l ++ [t]) (doR a r).2 = _
    rw [ih]
    rfl
theorem runG (l : List (List UInt8)) : (runR l rm0).Good := by
  refine snoc_ind (P := fun l => (runR l rm0).Good) rm0_good ?_ l
  intro l t h
  rw [runR_snoc]
  exact good_do h t
theorem Rs.fresh {v v' : RV} {p N : Nat} {w w' : World} (h : Rs p v w v' w') (hF : ∀ k, v.F p k ∨ v.C k → N ≤ k) (hN : N ≤ w.heap.size) : Below N w w' ∧ ∀ k, v'.F p k ∨ v'.C k → N ≤ k :=
  ⟨⟨h.kp.os, h.kp.tape, h.kp.output, h.kp.size, fun b hb => h.kp.block b (by omega) fun hf => by have := hF b (.inl hf); omega⟩, fun k hk => by
    rcases hk with hk | hk
    · rcases h.f k hk with h1 | h1
      · exact hF k (.inl h1)
      · omega
    · rcases h.c k hk with h1 | h1
      · exact hF k (.inr h1)
      · omega⟩
structure Bs (v : RV) (p : Nat) (u : Value) : Prop where
  f : ∀ k, u.ownBlock = some k → ¬ v.F p k
  c : ∀ k, u.ownBlock = some k → ¬ v.C k
theorem Bs.step {v v' : RV} {p : Nat} {w w' : World} {u : Value} (h : Bs v p u) (hr : Rs p v w v' w') (hu : ∀ k, u.ownBlock = some k → k < w.heap.size) : Bs v' p u :=
  ⟨fun k hk hf => (hr.f k hf).elim (h.f k hk) fun h1 => by have := hu k hk; omega, fun k hk hc => (hr.c k hc).elim (h.c k hk) fun h1 => by have := hu k hk; omega⟩
theorem Bs.row {v v' : RV} {p bl e sz n : Nat} {w w' : World} {u : Value} {xs : List Value} (h : Bs v p u) (hr : Rs p v w v' w') (ho : w.ownsRow bl e sz u n xs) : w'.ownsRow bl e sz u n xs := own_kp ho hr.kp h.f
theorem Bs.grow {v : RV} {s : Int} {p n c n' c' : Nat} {A A' : Option Addr} {w w' : World} (h : Bs v p (.slice A n c)) (hi : v.In s p w) (hg : w.grownBy w' (Value.slice A n c).ownBlock) (hl : A' = A ∨ ∀ q, A' = some q → w.heap.size ≤ q.block) :
    v.In s p w' ∧ Bs v p (.slice A' n' c') := by
  refine ⟨hi.kp (S := fun j => (Value.slice A n c).ownBlock = some j) ((Kp.refl _ w).grown hg fun k hk _ => hk) fun b hb e => hb.elim (h.f b e) (h.c b e), ?_⟩
  rcases hl with rfl | hl
  · have e : ∀ k, (Value.slice A' n' c').ownBlock = some k → (Value.slice A' n c).ownBlock = some k := fun k hk => by
      obtain ⟨a, ha, hb⟩ := ownb hk
      rw [ha, ← hb]; rfl
    exact ⟨fun k hk => h.f k (e k hk), fun k hk => h.c k (e k hk)⟩
  · have e : ∀ k, (Value.slice A' n' c').ownBlock = some k → w.heap.size ≤ k := fun k hk => by
      obtain ⟨a, ha, hb⟩ := ownb hk
      rw [← hb]; exact hl a ha
    exact ⟨fun k hk hf => by have := hi.lt (.inl hf); have := e k hk; omega, fun k hk hc => by have := hi.lt (.inr hc); have := e k hk; omega⟩
theorem info29 : (Tryz.prog.info? 29).map (fun i => (i.zero, i.size, i.bytes)) = some (some (.int .i64 0), 1, 8) := by kernel_rfl
def RetRun (l : List (List UInt8)) (w : World) (r : Ending) (w' : World) : Prop :=
  (if 300 < l.length then r = .returned (.tuple #[.slice none 0 0, .string (mkB []), .int .i64 4])
    else ∃ B d, r = .returned (.tuple #[.slice B l.length d, .string (mkB (dayT (runR l rm0).day)), .int .i64 0]) ∧ Reads w' w'.heap.size 1 B l.length (ints (errsR l rm0))) ∧ Below w.heap.size w w'
set_option maxRecDepth 100000 in
set_option maxHeartbeats 1000000 in
theorem run_any (A : Option Addr) (n c : Nat) (l : List (List UInt8)) (m : Int) (w : World) (hl : Reads w w.heap.size 1 A n (strL l)) (hgl : Gl m w) : Calls Tryz.prog 35 #[.slice A n c] w (RetRun l w) := by
  have hnl : n = l.length := by have := hl.1; rw [strL_len] at this; omega
  go_enter Tryz.func35, Tryz.ntmps35
  by_cases h3 : 300 < n
  · have h3' : (300 : Int) < (n : Int) := by omega
    go_wp2_with fail
    refine bodyPost_ret (results_tmp3 rfl _ _ _) rfl ?_
    exact ⟨by rw [if_pos (by omega)]; rfl, Below.refl _ _⟩
  have h3' : ¬ (300 : Int) < (n : Int) := by omega
  have hn : n ≤ 1000000 := by omega
  have HL := Lib.hid hl
  have HGL := Lib.hid hgl
  have HN := Lib.hid hnl
  clear hl hgl hnl
  go_wp2_with fail
  with_reducible refine (new_any w HGL.out.g).mono ?_
  rintro _ w1 ⟨v0, p, rfl, hrm, hi, hF, hb⟩
  have HI0 := Lib.hid hi
  have HF0 := Lib.hid hF
  have HB0 := Lib.hid hb
  have HRM0 := Lib.hid hrm
  clear hi hF hb hrm
  go_wp2_with fail
  go_loopw [6, 15] (fun out i wr => ∃ (j : Nat) (v : RV) (B : Option Addr) (d : Nat), j ≤ n ∧ i = .int .i64 j ∧ out = .slice B j d ∧ v.rm = runR (l.take j) rm0 ∧ v.In 0 p wr ∧ wr.ownsRow w.heap.size 29 1 (.slice B j d) j (ints (errsR (l.take j) rm0)) ∧ Bs v p (.slice B j d) ∧ Below w.heap.size w wr ∧ ∀ k, v.F p k ∨ v.C k → w.heap.size ≤ k) (fun _ i _ => n - (intOf i).toNat)
  case atStart => exact ⟨0, v0, none, 0, Nat.zero_le _, rfl, rfl, HRM0.out, HI0.out, World.ownsRow_nil _ _ _ _, ⟨fun k hk => by simp [Value.ownBlock] at hk, fun k hk => by simp [Value.ownBlock] at hk⟩, HB0.out, HF0.out⟩
  case round =>
    obtain ⟨j, v, B, d, hj, rfl, rfl, hrm, hi, ho, hs, hb, hF⟩ := hrel
    have HRM := Lib.hid hrm
    have HI := Lib.hid hi
    have HO := Lib.hid ho
    have HS := Lib.hid hs
    have HB := Lib.hid hb
    have HF := Lib.hid hF
    clear hrm hi ho hs hb hF HI0 HF0 HB0 HRM0
    by_cases hlt : j < n
    · have hjl : j < l.length := by have := HN.out; omega
      obtain ⟨t, ht⟩ : ∃ t, l[j]? = some t := ⟨l[j], List.getElem?_eq_getElem hjl⟩
      obtain ⟨ad, e1, hbk, hc⟩ := (HL.out.on HB.out).2 (by omega)
      have ct : wr.cell? (ad.add j) = some (.string (mkB t)) := hc j _ (by simp [strL, ht])
      have hlj : (j : Int) < (n : Int) := by omega
      have HTK := Lib.hid (take_succ_of ht)
      have HGLr := Lib.hid (HGL.out.below HB.out)
      have HG : Hid v.rm.Good := Lib.hid (by rw [HRM.out]; exact runG _)
      subst e1
      clear hc ht
      go_wp2_with fail
      with_reducible refine (do_any v p t m wr HI.out HG.out HGLr.out).mono ?_
      rintro _ w2 ⟨rfl, v1, hrm, hi, hr⟩
      have HI2 := Lib.hid hi
      have HRM2 : Hid (v1.rm = runR (l.take (j + 1)) rm0) := Lib.hid (by rw [hrm, HRM.out, HTK.out, runR_snoc])
      have HE : Hid (errsR (l.take (j + 1)) rm0 = errsR (l.take j) rm0 ++ [(doR t v.rm).1]) := Lib.hid (by rw [HTK.out, errs_snoc, HRM.out])
      obtain ⟨hb2, hF2⟩ := hr.fresh HF.out HB.out.size
      have HB2 := Lib.hid (HB.out.trans hb2)
      have HF2 := Lib.hid hF2
      have HO2 := Lib.hid (HS.out.row hr HO.out)
      have HS2 := Lib.hid (HS.out.step hr fun k hk => (HO.out.lt k hk).2)
      clear hi hrm hr hb2 hF2 HI HO HS HB HF HRM HG HGLr ct
      generalize (doR t v.rm).1 = e at HE ⊢
      have hb3 := belowA w2 (.cells #[.int .i64 e] 29)
      have HI3 := Lib.hid (HI2.out.below hb3)
      have HO3 := Lib.hid (row_on HO2.out hb3)
      have HB3 := Lib.hid (HB2.out.trans (hb3.mono HB2.out.size))
      have hrd := reads_new w2 [.int .i64 e] 29 1 1 rfl
      have v1' : IntKind.i64.wrap ((j : Int) + 1) = ((j + 1 : Nat) : Int) := by rw [IntWalk.i64_in _ (by omega)]; push_cast; rfl
      clear hb3
      go_wp2_with (at_builtin; refine wpList_pushXm rfl _ _ 68 29 rfl Tryz.underlying68 info29 rfl (by decide) (by decide) w.heap.size _ B j d (ints (errsR (l.take j) rm0)) (some ⟨w2.heap.size, 0, none⟩) 1 1 [.int .i64 e] rfl HO3.out HB3.out.size rfl hrd (fun u hu => by rw [List.mem_singleton.1 hu]; rfl) (by omega) ?_; intro A' c' X ho hg hl)
      obtain ⟨g1, g2⟩ := HS2.out.grow (n' := j + 1) (c' := c') HI3.out hg hl
      refine ⟨⟨j + 1, v1, A', c', by omega, by go_num, rfl, HRM2.out, g1, ?_, g2, HB3.out.grown hg HB3.out.size fun k hk => (HO3.out.lt k hk).1, HF2.out⟩, by simp [intOf]; omega⟩
      rw [HE.out, show ints (errsR (l.take j) rm0 ++ [e]) = ints (errsR (l.take j) rm0) ++ [.int .i64 e] by simp [ints]]
      exact ho
    · obtain rfl : j = n := by omega
      have hlj : ¬ (j : Int) < (j : Int) := by omega
      have e : l.take j = l := List.take_of_length_le (by have := HN.out; omega)
      rw [e] at HRM HO
      have HG : Hid v.rm.Good := Lib.hid (by rw [HRM.out]; exact runG _)
      have hd3 : v.day.length ≤ 300 := HG.out.day
      have hd4 : ∀ t ∈ v.day, t.length ≤ 60 := fun t ht => (HG.out.lines t ht).2
      have hday : v.day = (runR l rm0).day := by have := congrArg Rm.day HRM.out; exact this
      go_wp2_with fail
      with_reducible refine (day_any v p wr HI.out hd3 hd4).mono ?_
      rintro _ w2 ⟨rfl, hi, hr⟩
      obtain ⟨hb2, _⟩ := hr.fresh HF.out HB.out.size
      have HB2 := Lib.hid (HB.out.trans hb2)
      have HO2 := Lib.hid (HS.out.row hr HO.out)
      clear hi hr hb2
      go_wp2_with fail
      refine bodyPost_ret (results_tmp3 rfl _ _ _) rfl ?_
      refine ⟨?_, HB2.out⟩
      rw [if_neg (by have := HN.out; omega)]
      refine ⟨B, d, ?_, ?_⟩
      · rw [← HN.out]; rfl
      · rw [← HN.out]; exact Reads.of_own HO2.out
end Go.Proofs.YtihhclhpjgeniaaGreatDoor
