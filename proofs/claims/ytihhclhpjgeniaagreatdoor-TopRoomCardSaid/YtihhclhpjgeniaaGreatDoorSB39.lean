/- Merged texts: Ya Lk Yb -/
import Derived.Test.YtihhclhpjgeniaaGreatDoorSB16
import Derived.Test.YtihhclhpjgeniaaGreatDoorSB25
import Derived.Test.YtihhclhpjgeniaaGreatDoorSB30
import Derived.Test.YtihhclhpjgeniaaGreatDoorSB33
import Derived.Test.YtihhclhpjgeniaaGreatDoorSB37
import Derived.Test.YtihhclhpjgeniaaGreatDoorSB38
import Derived.Conc.MuLone
import Derived.KernelRfl
import Derived.Defers
namespace Go.Proofs.YtihhclhpjgeniaaGreatDoor
open Go.RowKit Go.Sort
theorem used_do (r : Rm) (o : Ordr) : (doO r o).2.used.length ≤ r.used.length + 1 := by
 unfold doO
 split
 ·unfold buyR; (repeat' split) <;> simp [Rm.put]
 ·unfold mixR; (repeat' split) <;> simp [Rm.setH]
 ·unfold drawR; (repeat' split) <;> simp [Rm.put, Rm.setH]
 ·unfold hackR; (repeat' split) <;> simp [Rm.setH]
 ·unfold turnR; (repeat' split) <;> simp [Rm.setH]
 ·unfold snapR; (repeat' split) <;> simp [Rm.setH]
 ·unfold beginR; (repeat' split) <;> simp
 ·unfold knotR; (repeat' split) <;> simp [Rm.setW]
 ·unfold lendR; (repeat' split) <;> simp [Rm.setW]
 ·unfold backR; (repeat' split) <;> simp [Rm.setW]
 ·unfold mendR; (repeat' split) <;> simp [Rm.setW, Rm.setH]
 ·unfold sellR; (repeat' split) <;> simp [Rm.setW]
 ·unfold claimR; (repeat' split) <;> simp [Rm.setW]
 ·unfold workR writeR; (repeat' split) <;> simp [Rm.setW]
 ·simp
theorem used_doR (t : List UInt8) (r : Rm) : (doR t r).2.used.length ≤ r.used.length + 1 := by
 unfold doR
 split
 ·simp
 ·rename_i o _
  have := used_do r o
  split
  ·simp
  ·split
   ·simp
   ·exact this
theorem used_run (l : List (List UInt8)) : ∀ r : Rm, (runR l r).used.length ≤ r.used.length + l.length := by
 induction l with
 | nil => intro r; exact Nat.le_refl _
 | cons t l ih =>
  intro r
  have h1 := ih (doR t r).2
  have h2 := used_doR t r
  show (runR l (doR t r).2).used.length ≤ _
  rw [List.length_cons]
  omega
theorem Rm.Good.used {r : Rm} (h : r.Good) : r.used.length ≤ 300 := by
 have := used_run r.day rm0
 rw [h.again] at this
 have h2 := h.day
 simp [rm0] at this
 omega
theorem Rm.Good.bounds {r : Rm} (h : r.Good) : (0 ≤ r.lost ∧ r.lost ≤ 1000000000) ∧ (0 ≤ r.bought ∧ r.bought ≤ 1000000000) ∧ (-1000000000 ≤ r.cash ∧ r.cash ≤ 1000000000) := by
 have h1 := hairsB_in fun b hb => (h.ok.hb b hb).2
 have h2 := hairsW_in h.ok.hw
 have h3 := h.ok.bal
 have h4 := h.few.bought
 have h5 := h.few.cash
 have h6 := h.day
 have h7 := h.ok.lost
 omega
theorem readO_short : ∀ (fs : List Nat) (ws : List (List UInt8)) (o o' : Ordr), (∀ x ∈ ws, x.length ≤ 60) → (∀ a ∈ o.names, a.length ≤ 60) → o.style.length ≤ 60 → readO o fs ws = some o' → (∀ a ∈ o'.names, a.length ≤ 60) ∧ o'.style.length ≤ 60
 | [], ws, o, o', _, h1, h2, h => by
  have : o = o' := by simpa [readO] using h
  subst this
  exact ⟨h1, h2⟩
 | f :: fs, [], o, o', _, h1, h2, h => by
  have : o = o' := by simpa [readO] using h
  subst this
  exact ⟨h1, h2⟩
 | f :: fs, x :: ws, o, o', hw, h1, h2, h => by
  unfold readO at h
  split at h
  ·rename_i o1 ho
   have hx := hw x (by simp)
   have hk : (∀ a ∈ o1.names, a.length ≤ 60) ∧ o1.style.length ≤ 60 := by
    unfold putW at ho
    split at ho
    ·split at ho
     ·injection ho with ho
      subst ho
      refine ⟨fun a ha => ?_, h2⟩
      rcases List.mem_append.1 ha with ha | ha
      ·exact h1 a ha
      ·rw [List.mem_singleton.1 ha]; exact hx
     ·cases ho
    ·split at ho
     ·split at ho
      ·injection ho with ho
       subst ho
       exact ⟨h1, h2⟩
      ·cases ho
     ·split at ho
      ·cases ho
      ·injection ho with ho
       subst ho
       exact ⟨h1, hx⟩
   exact readO_short fs ws o1 o' (fun x hx => hw x (by simp [hx])) hk.1 hk.2 h
  ·cases h
theorem parseO_short {s : List UInt8} {o : Ordr} (h : parseO s = some o) : (∀ a ∈ o.names, a.length ≤ 60) ∧ o.style.length ≤ 60 := by
 have hf := (parseO_form h).2.2
 unfold parseO at h
 split at h
 ·cases h
 ·split at h
  ·cases h
  ·rename_i hd ws hp
   unfold wordsO at h
   split at h
   ·split at h
    ·exact readO_short _ ws _ o (fun x hx => Nat.le_trans (pcs_len (b := 32) (s := s) (by rw [hp]; simp [hx])) hf) (fun a ha => by cases ha) (Nat.zero_le _) h
    ·cases h
   ·cases h
theorem doO_any (v : RV) (st : Int) (p : Nat) (x : OV) (w : World) (h : v.In st p w) (hx : x.In w) (hxF : ∀ k, blk x.A x.n k ∨ blk x.B x.m k → ¬ v.F p k) (ho : OrdS x.o) (hs : (∀ a ∈ x.o.names, a.length ≤ 60) ∧ x.o.style.length ≤ 60) (ht : Tab w) (hg : v.rm.Good) :
  Calls Tryz.prog (doF x.o.kind) #[.pointer (some ⟨p, 0, none⟩), .agg x.arr] w (RetO v st p w (doO v.rm x.o)) := by
 obtain ⟨hlost, hbo, hcash⟩ := hg.bounds
 have hlb : v.bs.length ≤ 12 := by have := hg.ok.nb; simpa [RV.rm] using this
 have hlw : v.ws.length ≤ 12 := by have := hg.ok.nw; simpa [RV.rm] using this
 have hul : v.used.length ≤ 1000000 := Nat.le_trans hg.used (by decide)
 have hok : ∀ y ∈ v.ws, y.w.Ok := fun y hy => hg.ok.hw y.w (List.mem_map.2 ⟨y, hy, rfl⟩)
 have hnl : ∀ a, a ∈ x.o.names → a.length ≤ 1000000 := fun a ha => Nat.le_trans (hs.1 a ha) (by decide)
 have hs2 : x.o.style.length ≤ 400 := Nat.le_trans hs.2 (by decide)
 obtain ⟨o, form, f, A, n, c, B, m, d⟩ := x
 dsimp only at ho hs hnl hs2 hxF ⊢
 have ho' := ho
 cases ho with
 | nccc k n a b c hk hn ha hb hc =>
  rcases hk with rfl | rfl
  ·exact buyO_any v st p _ n a b c w h hx rfl rfl ha hb hc (hnl n (by simp)) ht hul hlb hcash hbo
  ·exact snapO_any v st p _ n a b c w h hx rfl rfl rfl ha hb hc ht hlb hlost hbo
 | nn n m hn hm => exact mixO_any v st p _ n m w h hx rfl rfl ht hlb
 | ncn n m a hn hm ha => exact drawO_any v st p _ n m a w h hx rfl rfl rfl ha (hnl m (by simp)) ht hul hlb
 | nc k n a hk hn ha =>
  rcases hk with rfl | rfl | rfl | rfl | rfl
  ·exact hackO_any v st p _ n a w h hx rfl rfl rfl ha ht hlb hlost hbo
  ·exact knotO_any v st p _ n a w h hx rfl rfl ha hok hlw
  ·exact workO_any v st p _ n w h hx rfl ho' hs2 (by simp) hok ht hlw
  ·exact backO_any v st p _ n a w h hx rfl rfl ha hok hlost ht hlw
  ·exact sellO_any v st p _ n a w h hx rfl rfl ha hlw hcash
 | n k n hk hn =>
  rcases hk with rfl | rfl | rfl | rfl | rfl | rfl
  ·exact turnO_any v st p _ n w h hx rfl rfl rfl ht hlb hlost hbo
  ·exact workO_any v st p _ n w h hx rfl ho' hs2 (by simp) hok ht hlw
  ·exact workO_any v st p _ n w h hx rfl ho' hs2 (by simp) hok ht hlw
  ·exact workO_any v st p _ n w h hx rfl ho' hs2 (by simp) hok ht hlw
  ·exact lendO_any v st p _ n w h hx rfl hlw
  ·exact claimO_any v st p _ n w h hx rfl hok hcash hlw
 | nncc n m a b hn hm ha hb => exact beginO_any v st p _ n m a b w h hx hxF rfl rfl rfl ha hb (hnl n (by simp)) ht hul hlb hlw
 | ncc n a b hn ha hb => exact workO_any v st p _ n w h hx rfl ho' hs2 (by simp) hok ht hlw
 | ns n s hn hs' => exact workO_any v st p _ n w h hx rfl ho' hs2 (by simp) hok ht hlw
 | nnc n m a hn hm ha => exact mendO_any v st p _ n m a w h hx rfl rfl rfl ha hok ht hlb hlw
end Go.Proofs.YtihhclhpjgeniaaGreatDoor
namespace Go.Proofs.YtihhclhpjgeniaaGreatDoor
abbrev muL : Go.Conc.Locks.MuLink := { lock := 54, unlock := 55, ilock := 88, iunlock := 89, lockSlow := 151, unlockSlow := 154, disable := 147, enable := 149, acquire := 150, relMerge := 152, cas32 := 148, add32 := 153, tMutex := 104, tIMutex := 102, tPMutex := 153, tPIMutex := 220, tPI32 := 222, tUP := 224, tNoCopy := 99, tU32 := 100 }
theorem muLib : Go.Conc.Locks.MuLib Tryz.prog muL :=
 ⟨Tryz.func54, Tryz.func55, Tryz.func88, Tryz.func89, Tryz.func147, Tryz.func149, Tryz.func150, Tryz.func152, Tryz.func148, Tryz.func153, Tryz.underlying102, Tryz.runUnderlying102, Tryz.sizeOf102, Tryz.isAgg102, Tryz.zeroValue102, Tryz.underlying104, Tryz.runUnderlying104, Tryz.sizeOf104, Tryz.isAgg104, Tryz.zeroValue104, Tryz.underlying153, Tryz.runUnderlying153, Tryz.sizeOf153, Tryz.isAgg153, Tryz.zeroValue153, Tryz.underlying220, Tryz.runUnderlying220, Tryz.sizeOf220, Tryz.isAgg220, Tryz.zeroValue220, Tryz.underlying222, Tryz.runUnderlying222, Tryz.sizeOf222, Tryz.isAgg222, Tryz.zeroValue222, Tryz.underlying224, Tryz.runUnderlying224, Tryz.sizeOf224, Tryz.isAgg224, Tryz.zeroValue224, Tryz.underlying99, Tryz.runUnderlying99, Tryz.sizeOf99, Tryz.isAgg99, Tryz.zeroValue99, Tryz.underlying21, Tryz.runUnderlying21, Tryz.sizeOf21, Tryz.isAgg21, Tryz.zeroValue21, (by kernel_rfl)⟩
end Go.Proofs.YtihhclhpjgeniaaGreatDoor
namespace Go.Proofs.YtihhclhpjgeniaaGreatDoor
open Go.RowKit Go.Sort Go.MuLone
structure Gl (m : Int) (w : World) : Prop where
 t : Tab w
 m : w.cell? ⟨1, 0, none⟩ = some (.int .i64 m)
 g : 8 ≤ w.heap.size
theorem Gl.b8 {m : Int} {w w' : World} (h : Gl m w) (hb : Below 8 w w') : Gl m w' :=
 ⟨tab_kept h.t hb (by decide), by rw [← h.m]; unfold World.cell?; rw [hb.block 1 (by decide)], Nat.le_trans h.g hb.size⟩
theorem Gl.below {m : Int} {w w' : World} (h : Gl m w) (hb : Below w.heap.size w w') : Gl m w' := h.b8 (hb.mono h.g)
theorem Rs.b8 {v v' : RV} {s : Int} {p : Nat} {w w' : World} (h : v.In s p w) (hr : Rs p v w v' w') (hg : 8 ≤ w.heap.size) : Below 8 w w' :=
 ⟨hr.kp.os, hr.kp.tape, hr.kp.output, hr.kp.size, fun b hb => hr.kp.block b (Nat.lt_of_lt_of_le hb hg) fun hf => by have := h.g b (.inl hf); omega⟩
theorem doO_zero_or (r : Rm) (o : Ordr) : (doO r o).1 = 0 ∨ (doO r o).2 = r := by
 unfold doO
 split
 ·unfold buyR; (repeat' split) <;> simp
 ·unfold mixR; (repeat' split) <;> simp
 ·unfold drawR; (repeat' split) <;> simp
 ·unfold hackR; (repeat' split) <;> simp
 ·unfold turnR; (repeat' split) <;> simp
 ·unfold snapR; (repeat' split) <;> simp
 ·unfold beginR; (repeat' split) <;> simp
 ·unfold knotR; (repeat' split) <;> simp
 ·unfold lendR; (repeat' split) <;> simp
 ·unfold backR; (repeat' split) <;> simp
 ·unfold mendR; (repeat' split) <;> simp
 ·unfold sellR; (repeat' split) <;> simp
 ·unfold claimR; (repeat' split) <;> simp
 ·unfold workR writeR; (repeat' split) <;> simp
 ·simp
theorem RV.In.lock {v : RV} {s : Int} {p : Nat} {w : World} (h : v.In s p w) (s' : Int) : v.In s' p (w.setCell ⟨p, 0, none⟩ (.int .i32 s')) ∧ Rs p v w v (w.setCell ⟨p, 0, none⟩ (.int .i32 s')) :=
 h.setN (v' := v) (s' := s') 0 (.int .i32 s') rfl ⟨rfl, rfl, rfl, rfl⟩ ⟨rfl, rfl, rfl, rfl⟩ ⟨rfl, rfl, rfl⟩
theorem unlock_door {fn : Func} {R : Ending → World → Prop} {tmps : Array Value} {W : World} {p : Nat} {r : Value} (hc : W.cell? ⟨p, 0, none⟩ = some (.int .i32 1)) (hf : W.frozen? ⟨p, 0, none⟩ = false)
  (hres : (results fn tmps).run Tryz.prog (W.setCell ⟨p, 0, none⟩ (.int .i32 0)) = .ok r (W.setCell ⟨p, 0, none⟩ (.int .i32 0))) (hR : R (.returned r) (W.setCell ⟨p, 0, none⟩ (.int .i32 0))) :
  bodyPostD Tryz.prog fn R Exit.ret { tmps := tmps, defers := [{ target := .fn (.func 55) #[], args := #[.pointer (some ⟨p, 0, none⟩)] }] } W := by
 refine leaves_cons (f := 55) (args := #[.pointer (some ⟨p, 0, none⟩)]) (by simp) (by simp [go_sem]) ?_
 refine (unlock_deferred muLib ⟨p, 0, none⟩ .returning W hc hf).mono ?_
 rintro e u' w'' ⟨rfl, rfl, rfl⟩
 exact ⟨_, hres, hR⟩
theorem do_door {v v' : RV} {p : Nat} {w W : World} {tmps : Array Value} {s : List UInt8} {e : Int} (hi : v'.In 1 p W) (hr : Rs p v w v' W) (hd : doR s v.rm = (e, v'.rm)) (ht : tmps.getD 4 undef = .int .i64 e) :
  bodyPostD Tryz.prog Tryz.f22 (RetO v 0 p w (doR s v.rm)) Exit.ret { tmps := tmps, defers := [{ target := .fn (.func 55) #[], args := #[.pointer (some ⟨p, 0, none⟩)] }] } W := by
 obtain ⟨a, b⟩ := hi.lock 0
 refine unlock_door (At.cell hi.room 0) (hi.room.fz 0) (results_tmp rfl _ _ _) ?_
 rw [ht, hd]
 exact ⟨rfl, v', rfl, a, hr.trans b⟩
theorem enter_do {o : Ordr} (h : OrdS o) (args : Array Value) (w : World) : (callFunc (doF o.kind) args).run Tryz.prog w = .ok (.enter (doF o.kind) args) w := by
 cases h with
 | nccc k n a b c hk =>
  rcases hk with rfl | rfl
  ·exact run_callFunc_enter Tryz.func156 rfl rfl args w
  ·exact run_callFunc_enter Tryz.func159 rfl rfl args w
 | nn => exact run_callFunc_enter Tryz.func157 rfl rfl args w
 | ncn => exact run_callFunc_enter Tryz.func158 rfl rfl args w
 | nc k n a hk =>
  rcases hk with rfl | rfl | rfl | rfl | rfl
  ·exact run_callFunc_enter Tryz.func159 rfl rfl args w
  ·exact run_callFunc_enter Tryz.func161 rfl rfl args w
  ·exact run_callFunc_enter Tryz.func162 rfl rfl args w
  ·exact run_callFunc_enter Tryz.func164 rfl rfl args w
  ·exact run_callFunc_enter Tryz.func166 rfl rfl args w
 | n k n hk =>
  rcases hk with rfl | rfl | rfl | rfl | rfl | rfl
  ·exact run_callFunc_enter Tryz.func159 rfl rfl args w
  ·exact run_callFunc_enter Tryz.func162 rfl rfl args w
  ·exact run_callFunc_enter Tryz.func162 rfl rfl args w
  ·exact run_callFunc_enter Tryz.func162 rfl rfl args w
  ·exact run_callFunc_enter Tryz.func163 rfl rfl args w
  ·exact run_callFunc_enter Tryz.func167 rfl rfl args w
 | nncc => exact run_callFunc_enter Tryz.func160 rfl rfl args w
 | ncc => exact run_callFunc_enter Tryz.func162 rfl rfl args w
 | ns => exact run_callFunc_enter Tryz.func162 rfl rfl args w
 | nnc => exact run_callFunc_enter Tryz.func165 rfl rfl args w
set_option maxRecDepth 100000 in
set_option maxHeartbeats 1000000 in
theorem new_any (w : World) (hg : 8 ≤ w.heap.size) : Calls Tryz.prog 33 #[] w fun r w' => ∃ (v : RV) (p : Nat), r = .returned (.pointer (some ⟨p, 0, none⟩)) ∧ v.rm = rm0 ∧ v.In 0 p w' ∧ (∀ k, v.F p k ∨ v.C k → w.heap.size ≤ k) ∧ Below w.heap.size w w' := by
 have hmm : ∀ (t : TypeId) (w : World), (Instr.makeMap t none).run Tryz.prog w = .ok (.map (some w.heap.size)) (w.alloc (.map #[] 0)) := fun _ _ => rfl
 go_enter Tryz.func33, Tryz.ntmps33
 go_wp2_with fail
 go_ret
 have hu := UsedIn.new w
 have hb := belowA w (.map #[] 0)
 have hN : (w.alloc (.map #[] 0)).heap.size = w.heap.size + 1 := World.size_alloc _ _
 have hk := At.new (w.alloc (.map #[] 0)) #[.int .i32 0, .int .u32 0, .slice none 0 0, .slice none 0 0, .map (some w.heap.size), .int .i64 0, .int .i64 0, .int .i64 0, .slice none 0 0] 109
 have hb2 := belowA (w.alloc (.map #[] 0)) (.cells #[.int .i32 0, .int .u32 0, .slice none 0 0, .slice none 0 0, .map (some w.heap.size), .int .i64 0, .int .i64 0, .int .i64 0, .slice none 0 0] 109)
 rw [hN] at hk
 have hF : ∀ k, (⟨none, 0, none, 0, none, 0, w.heap.size, [], [], [], 0, 0, 0, []⟩ : RV).F (w.heap.size + 1) k → w.heap.size ≤ k := by
  rintro k (rfl | rfl | ⟨a, ha, _⟩ | ⟨a, ha, _⟩ | ⟨a, ha, _⟩)
  ·omega
  ·exact Nat.le_refl _
  ·cases ha
  ·cases ha
  ·cases ha
 have hC : ∀ k, ¬ (⟨none, 0, none, 0, none, 0, w.heap.size, [], [], [], 0, 0, 0, []⟩ : RV).C k := by
  rintro k (⟨b, hb, _⟩ | ⟨b, hb, _⟩) <;> cases hb
 refine ⟨⟨none, 0, none, 0, none, 0, w.heap.size, [], [], [], 0, 0, 0, []⟩, w.heap.size + 1, rfl, rfl, ⟨hk, World.ownsRow_nil _ _ _ _, World.ownsRow_nil _ _ _ _, World.ownsRow_nil _ _ _ _, hu.kp (Kp.of (S := fun _ => False) hb2) (fun e => e), (fun b hb => (by cases hb)), (fun b hb => (by cases hb)), fun k hk => absurd hk (hC k), fun k hk => ?_⟩, fun k hk => ?_, below_trans' hb hb2⟩
 ·rcases hk with hk | hk
  ·have := hF k hk; omega
  ·exact absurd hk (hC k)
 ·rcases hk with hk | hk
  ·exact hF k hk
  ·exact absurd hk (hC k)
set_option maxRecDepth 100000 in
set_option maxHeartbeats 1000000 in
theorem do_any (v : RV) (p : Nat) (s : List UInt8) (m : Int) (w : World) (h : v.In 0 p w) (hg : v.rm.Good) (hgl : Gl m w) :
  Calls Tryz.prog 22 #[.pointer (some ⟨p, 0, none⟩), .string (mkB s)] w (RetO v 0 p w (doR s v.rm)) := by
 have H := Lib.hid h
 have HG := Lib.hid hg
 have HGL := Lib.hid hgl
 have h1 : w.cell? ⟨p, 0, none⟩ = some (.int .i32 0) := At.cell h.room 0
 have f1 : w.frozen? ⟨p, 0, none⟩ = false := h.room.fz 0
 obtain ⟨l1, l2⟩ := h.lock 1
 have g1 := hgl.b8 (l2.b8 h hgl.g)
 have HL1 := Lib.hid l1
 have HL2 := Lib.hid l2
 have HG1 := Lib.hid g1
 clear h hg hgl l1 l2 g1
 go_enter_defers Tryz.func22, Tryz.ntmps22
 go_wp2_with (go_at_call 54; refine (lock_free muLib ⟨p, 0, none⟩ _ h1 f1).mono ?_; rintro e w' ⟨rfl, rfl⟩)
 clear h1 f1
 generalize w.setCell ⟨p, 0, none⟩ (.int .i32 1) = w1 at HL1 HL2 HG1 ⊢
 with_reducible refine (parseT_any s m w1 HG1.out.m HG1.out.g).mono ?_
 rintro r w2 ⟨hr, hb2⟩
 have B2 := Lib.hid hb2
 have HL3 := Lib.hid (HL1.out.below hb2)
 have HR3 := Lib.hid (HL2.out.grow hb2)
 have HG3 := Lib.hid (HG1.out.below hb2)
 have HW1 : Hid (∀ k, v.F p k → k < w1.heap.size) := Lib.hid (fun k hk => HL1.out.lt (.inl hk))
 clear hb2 HL1 HL2 HG1
 have n1 := fun (w : World) (a : Addr) => run_store Tryz.prog w a .nilFunc .plain rfl
 have n2 := fun (w : World) (a : Addr) (f : Fn) (x y : Array Value) => run_store Tryz.prog w a (.func f x y) .plain rfl
 cases hp : parseO s with
 | none =>
  rw [hp] at hr
  subst hr
  have HD : Hid (doR s v.rm = (3, v.rm)) := Lib.hid (by unfold doR; rw [hp])
  clear hp
  go_wp2_with fail
  exact do_door (HL3.out.below (belowA _ _)) (HR3.out.grow (belowA _ _)) HD.out rfl
 | some o =>
  rw [hp] at hr
  obtain ⟨x, rfl, hf, rfl, hx, hxn⟩ := hr
  have HP := Lib.hid hp
  clear hp
  have HX := Lib.hid hx
  have HF := Lib.hid hf
  have HXF : Hid (∀ k, blk x.A x.n k ∨ blk x.B x.m k → ¬ v.F p k) := Lib.hid (fun k hk hf => by have h1 := hxn k hk; have h2 := HW1.out k hf; omega)
  clear hx hf hxn HW1
  rw [show x.arr = #[.int .i64 x.o.kind, .string (mkB x.form), .func (.func (doF x.o.kind)) #[] #[], .slice x.A x.n x.c, .string (mkB x.o.style), .slice x.B x.m x.d] from by rw [← HF.out]]
  have c8 : (w2.alloc (.cells #[.int .i64 x.o.kind, .string (mkB x.form), .func (.func (doF x.o.kind)) #[] #[], .slice x.A x.n x.c, .string (mkB x.o.style), .slice x.B x.m x.d] 114)).cell? ⟨p, 8, none⟩ = some (.slice v.E v.day.length v.ce) := At.cell (HL3.out.below (belowA w2 _)).room 8
  have hday : v.rm.day = v.day := rfl
  by_cases h300 : 300 ≤ v.day.length
  ·have h300' : (300 : Int) ≤ (v.day.length : Int) := by omega
   have HD : Hid (doR s v.rm = (4, v.rm)) := Lib.hid (by unfold doR; rw [HP.out]; exact if_pos h300)
   go_wp2_with fail
   exact do_door (HL3.out.below (belowA _ _)) (HR3.out.grow (belowA _ _)) HD.out rfl
  have h300' : ¬ (300 : Int) ≤ (v.day.length : Int) := by omega
  have HD : Hid (doR s v.rm = if (doO v.rm x.o).1 ≠ 0 then ((doO v.rm x.o).1, v.rm) else (0, { (doO v.rm x.o).2 with day := (doO v.rm x.o).2.day ++ [s] })) := Lib.hid (by unfold doR; rw [HP.out]; exact if_neg h300)
  clear hday h300
  obtain ⟨q1, _, q2⟩ := parseO_form HP.out
  have hcf := fun args w => enter_do q1 args w
  have HQ := Lib.hid q1
  have HSH := Lib.hid (parseO_short HP.out)
  clear q1 q2
  go_wp2_with fail
  clear c8 hcf
  rw [← HF.out]
  have HL4 := Lib.hid (HL3.out.below (belowA w2 (.cells x.arr 114)))
  have HX4 := Lib.hid (HX.out.below (belowA w2 (.cells x.arr 114)))
  have HG4 := Lib.hid (HG3.out.below (belowA w2 (.cells x.arr 114)))
  have HR4 := Lib.hid (HR3.out.grow (belowA w2 (.cells x.arr 114)))
  with_reducible refine (doO_any v 1 p x _ HL4.out HX4.out HXF.out HQ.out HSH.out HG4.out.t HG.out).mono ?_
  rintro _ w5 ⟨rfl, v1, hrm, hi, hrs⟩
  have HI5 := Lib.hid hi
  have HR5 := Lib.hid (HR4.out.trans hrs)
  have HRM := Lib.hid hrm
  clear hi hrs hrm HL3 HX HG3 HR3 HL4 HX4 HG4 HR4
  obtain ⟨e, he⟩ : ∃ e, (doO v.rm x.o).1 = e := ⟨_, rfl⟩
  have HE := Lib.hid he
  rw [he] at HD ⊢
  clear he
  by_cases h0 : e = 0
  rotate_left
  ·have HR : Hid (v1.rm = v.rm) := Lib.hid (HRM.out.trans ((doO_zero_or v.rm x.o).resolve_left (by rw [HE.out]; exact h0)))
   have HD2 : Hid (doR s v.rm = (e, v1.rm)) := Lib.hid (by rw [HD.out, if_pos h0, HR.out])
   have h1 : (e != 0) = true := by simpa using h0
   go_wp2_with fail
   exact do_door HI5.out HR5.out HD2.out rfl
  subst h0
  rw [if_neg (by simp)] at HD
  have hd := (doO_stp HG.out.ok HQ.out HE.out).day
  rw [← HRM.out] at HD hd
  have hdl : v1.day.length < 300 := by
   have : v1.day = v.day := hd
   rw [this]; omega
  have HDL := Lib.hid hdl
  clear hd hdl h300'
  have c8 : w5.cell? ⟨p, 8, none⟩ = some (.slice v1.E v1.day.length v1.ce) := At.cell HI5.out.room 8
  have HI6 := Lib.hid (HI5.out.below (belowA w5 (.cells #[.string (mkB s)] 9)))
  have HR6 := Lib.hid (HR5.out.grow (belowA w5 (.cells #[.string (mkB s)] 9)))
  have hrd := reads_new w5 [.string (mkB s)] 9 1 1 rfl
  go_wp2_with (at_builtin; refine wpList_pushXm rfl _ _ 22 9 rfl Tryz.underlying22 info9 rfl (by decide) (by decide) 0 _ v1.E v1.day.length v1.ce (strL v1.day) (some ⟨w5.heap.size, 0, none⟩) 1 1 [.string (mkB s)] rfl HI6.out.rd (Nat.zero_le _) rfl hrd (fun u hu => by rw [List.mem_singleton.1 hu]; rfl) (by have := HDL.out; omega) ?_; intro A' c' X ho hg hl; have kX := HI6.out.room.grown hg (fun e => by obtain ⟨a, ha, hk⟩ := ownb e; exact HI6.out.ne_p.2.2.2 a ha hk); have cX := kX.cell; have fX := kX.fz)
  obtain ⟨r1, r2, r3⟩ := HI6.out.addD s ho hg hl
  refine do_door (v' := { v1 with E := A', ce := c', day := v1.day ++ [s] }) r1 (HR6.out.step r2 (fun x _ e => ?_) (fun j hj => (r3 j hj).imp id fun h => Nat.le_trans HR6.out.kp.size h) (fun j hj => .inl hj)) ?_ rfl
  ·rcases e with e | e
   ·exact .inl e
   ·exact .inr (.inr (.inr (.inr e)))
  ·rw [HD.out]
   rfl
end Go.Proofs.YtihhclhpjgeniaaGreatDoor
