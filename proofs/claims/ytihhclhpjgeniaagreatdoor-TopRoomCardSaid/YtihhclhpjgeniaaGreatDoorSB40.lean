/- Merged texts: Yc Yd Ye Yf Yg -/
import Derived.Test.YtihhclhpjgeniaaGreatDoorSB4
import Derived.Test.YtihhclhpjgeniaaGreatDoorSB8
import Derived.Test.YtihhclhpjgeniaaGreatDoorSB39
namespace Go.Proofs.YtihhclhpjgeniaaGreatDoor
open Go.RowKit Go.Sort Go.MuLone
def RetV (v : RV) (p : Nat) (w : World) (u : Value) (r : Ending) (w' : World) : Prop := r = .returned u ∧ v.In 0 p w' ∧ Rs p v w v w'
theorem tell_door {v : RV} {p : Nat} {w W : World} {tmps : Array Value} {fn : Func} {u : Value} {t : Nat} (hfn : fn.results = #[.tmp t]) (hi : v.In 1 p W) (hr : Rs p v w v W) (ht : tmps.getD t undef = u) :
  bodyPostD Tryz.prog fn (RetV v p w u) Exit.ret { tmps := tmps, defers := [{ target := .fn (.func 55) #[], args := #[.pointer (some ⟨p, 0, none⟩)] }] } W := by
 obtain ⟨a, b⟩ := hi.lock 0
 refine unlock_door (At.cell hi.room 0) (hi.room.fz 0) (results_tmp hfn _ _ _) ?_
 rw [ht]
 exact ⟨rfl, a, hr.trans b⟩
set_option maxRecDepth 100000 in
set_option maxHeartbeats 1000000 in
theorem cash1_any (v : RV) (st : Int) (p K : Nat) (w : World) (h : v.In st p w) (hK : At w K #[.pointer (some ⟨p, 0, none⟩)] 25) : Calls Tryz.prog 67 #[.pointer (some ⟨K, 0, none⟩)] w fun r w' => r = .returned (.int .i64 v.cash) ∧ w' = w := by
 have c1 : w.cell? ⟨K, 0, none⟩ = some (.pointer (some ⟨p, 0, none⟩)) := hK.cell 0
 have c2 : w.cell? ⟨p, 7, none⟩ = some (.int .i64 v.cash) := At.cell h.room 7
 clear h hK
 go_enter Tryz.func67, Tryz.ntmps67
 go_wp2_with fail
 go_ret
 exact ⟨rfl, rfl⟩
set_option maxRecDepth 100000 in
set_option maxHeartbeats 1000000 in
theorem told67_any (v : RV) (p K : Nat) (w : World) (h : v.In 0 p w) (hK : At w K #[.pointer (some ⟨p, 0, none⟩)] 25) : Calls Tryz.prog 66 #[.pointer (some ⟨p, 0, none⟩), .func (.func 67) #[] #[.pointer (some ⟨K, 0, none⟩)]] w (RetV v p w (.int .i64 v.cash)) := by
 have h1 : w.cell? ⟨p, 0, none⟩ = some (.int .i32 0) := At.cell h.room 0
 have f1 : w.frozen? ⟨p, 0, none⟩ = false := h.room.fz 0
 obtain ⟨l1, l2⟩ := h.lock 1
 have hpK : K ≠ p := fun e => by
  subst e
  have h2 : w.heap[K]? = _ := hK
  have h3 : w.heap[K]? = _ := h.room
  rw [h2] at h3
  simp at h3
 have HK := Lib.hid (hK.far (p := ⟨p, 0, none⟩) hpK (.int .i32 1))
 have HL1 := Lib.hid l1
 have HL2 := Lib.hid l2
 clear h l1 l2 hK
 go_enter_defers Tryz.func66, Tryz.ntmps66
 go_wp2_with (go_at_call 54; refine (lock_free muLib ⟨p, 0, none⟩ _ h1 f1).mono ?_; rintro e w' ⟨rfl, rfl⟩)
 clear h1 f1
 generalize w.setCell ⟨p, 0, none⟩ (.int .i32 1) = w1 at HL1 HL2 HK ⊢
 with_reducible refine (cash1_any v 1 p K w1 HL1.out HK.out).mono ?_
 rintro _ w2 ⟨rfl, rfl⟩
 go_wp2_with fail
 exact tell_door rfl HL1.out HL2.out rfl
set_option maxRecDepth 100000 in
set_option maxHeartbeats 1000000 in
theorem cash_any (v : RV) (p : Nat) (w : World) (h : v.In 0 p w) : Calls Tryz.prog 27 #[.pointer (some ⟨p, 0, none⟩)] w (RetV v p w (.int .i64 v.cash)) := by
 have hmf : ∀ (fn : Fn) (first cap : Array Value) (w : World), (Instr.makeFunc fn first cap).run Tryz.prog w = .ok (.func fn first cap) w := fun _ _ _ _ => rfl
 have H := Lib.hid (h.below (belowA w (.cells #[.pointer (some ⟨p, 0, none⟩)] 25)))
 have HR := Lib.hid (Rs.below (v := v) (p := p) (belowA w (.cells #[.pointer (some ⟨p, 0, none⟩)] 25)))
 have HK := Lib.hid (At.new w #[.pointer (some ⟨p, 0, none⟩)] 25)
 clear h
 go_enter Tryz.func27, Tryz.ntmps27
 go_wp2_with fail
 with_reducible refine (told67_any v p w.heap.size _ H.out HK.out).mono ?_
 rintro _ w2 ⟨rfl, hi, hr⟩
 have HI := Lib.hid hi
 have HS := Lib.hid (HR.out.trans hr)
 clear hi hr H HK HR
 go_wp2_with fail
 go_ret
 exact ⟨rfl, HI.out, HS.out⟩
set_option maxRecDepth 100000 in
set_option maxHeartbeats 1000000 in
theorem lost1_any (v : RV) (st : Int) (p K : Nat) (w : World) (h : v.In st p w) (hK : At w K #[.pointer (some ⟨p, 0, none⟩)] 25) : Calls Tryz.prog 74 #[.pointer (some ⟨K, 0, none⟩)] w fun r w' => r = .returned (.int .i64 v.lost) ∧ w' = w := by
 have c1 : w.cell? ⟨K, 0, none⟩ = some (.pointer (some ⟨p, 0, none⟩)) := hK.cell 0
 have c2 : w.cell? ⟨p, 6, none⟩ = some (.int .i64 v.lost) := At.cell h.room 6
 clear h hK
 go_enter Tryz.func74, Tryz.ntmps74
 go_wp2_with fail
 go_ret
 exact ⟨rfl, rfl⟩
set_option maxRecDepth 100000 in
set_option maxHeartbeats 1000000 in
theorem told74_any (v : RV) (p K : Nat) (w : World) (h : v.In 0 p w) (hK : At w K #[.pointer (some ⟨p, 0, none⟩)] 25) : Calls Tryz.prog 66 #[.pointer (some ⟨p, 0, none⟩), .func (.func 74) #[] #[.pointer (some ⟨K, 0, none⟩)]] w (RetV v p w (.int .i64 v.lost)) := by
 have h1 : w.cell? ⟨p, 0, none⟩ = some (.int .i32 0) := At.cell h.room 0
 have f1 : w.frozen? ⟨p, 0, none⟩ = false := h.room.fz 0
 obtain ⟨l1, l2⟩ := h.lock 1
 have hpK : K ≠ p := fun e => by
  subst e
  have h2 : w.heap[K]? = _ := hK
  have h3 : w.heap[K]? = _ := h.room
  rw [h2] at h3
  simp at h3
 have HK := Lib.hid (hK.far (p := ⟨p, 0, none⟩) hpK (.int .i32 1))
 have HL1 := Lib.hid l1
 have HL2 := Lib.hid l2
 clear h l1 l2 hK
 go_enter_defers Tryz.func66, Tryz.ntmps66
 go_wp2_with (go_at_call 54; refine (lock_free muLib ⟨p, 0, none⟩ _ h1 f1).mono ?_; rintro e w' ⟨rfl, rfl⟩)
 clear h1 f1
 generalize w.setCell ⟨p, 0, none⟩ (.int .i32 1) = w1 at HL1 HL2 HK ⊢
 with_reducible refine (lost1_any v 1 p K w1 HL1.out HK.out).mono ?_
 rintro _ w2 ⟨rfl, rfl⟩
 go_wp2_with fail
 exact tell_door rfl HL1.out HL2.out rfl
set_option maxRecDepth 100000 in
set_option maxHeartbeats 1000000 in
theorem lost_any (v : RV) (p : Nat) (w : World) (h : v.In 0 p w) : Calls Tryz.prog 37 #[.pointer (some ⟨p, 0, none⟩)] w (RetV v p w (.int .i64 v.lost)) := by
 have hmf : ∀ (fn : Fn) (first cap : Array Value) (w : World), (Instr.makeFunc fn first cap).run Tryz.prog w = .ok (.func fn first cap) w := fun _ _ _ _ => rfl
 have H := Lib.hid (h.below (belowA w (.cells #[.pointer (some ⟨p, 0, none⟩)] 25)))
 have HR := Lib.hid (Rs.below (v := v) (p := p) (belowA w (.cells #[.pointer (some ⟨p, 0, none⟩)] 25)))
 have HK := Lib.hid (At.new w #[.pointer (some ⟨p, 0, none⟩)] 25)
 clear h
 go_enter Tryz.func37, Tryz.ntmps37
 go_wp2_with fail
 with_reducible refine (told74_any v p w.heap.size _ H.out HK.out).mono ?_
 rintro _ w2 ⟨rfl, hi, hr⟩
 have HI := Lib.hid hi
 have HS := Lib.hid (HR.out.trans hr)
 clear hi hr H HK HR
 go_wp2_with fail
 go_ret
 exact ⟨rfl, HI.out, HS.out⟩
set_option maxRecDepth 100000 in
set_option maxHeartbeats 1000000 in
theorem bought1_any (v : RV) (st : Int) (p K : Nat) (w : World) (h : v.In st p w) (hK : At w K #[.pointer (some ⟨p, 0, none⟩)] 25) : Calls Tryz.prog 81 #[.pointer (some ⟨K, 0, none⟩)] w fun r w' => r = .returned (.int .i64 v.bought) ∧ w' = w := by
 have c1 : w.cell? ⟨K, 0, none⟩ = some (.pointer (some ⟨p, 0, none⟩)) := hK.cell 0
 have c2 : w.cell? ⟨p, 5, none⟩ = some (.int .i64 v.bought) := At.cell h.room 5
 clear h hK
 go_enter Tryz.func81, Tryz.ntmps81
 go_wp2_with fail
 go_ret
 exact ⟨rfl, rfl⟩
set_option maxRecDepth 100000 in
set_option maxHeartbeats 1000000 in
theorem told81_any (v : RV) (p K : Nat) (w : World) (h : v.In 0 p w) (hK : At w K #[.pointer (some ⟨p, 0, none⟩)] 25) : Calls Tryz.prog 66 #[.pointer (some ⟨p, 0, none⟩), .func (.func 81) #[] #[.pointer (some ⟨K, 0, none⟩)]] w (RetV v p w (.int .i64 v.bought)) := by
 have h1 : w.cell? ⟨p, 0, none⟩ = some (.int .i32 0) := At.cell h.room 0
 have f1 : w.frozen? ⟨p, 0, none⟩ = false := h.room.fz 0
 obtain ⟨l1, l2⟩ := h.lock 1
 have hpK : K ≠ p := fun e => by
  subst e
  have h2 : w.heap[K]? = _ := hK
  have h3 : w.heap[K]? = _ := h.room
  rw [h2] at h3
  simp at h3
 have HK := Lib.hid (hK.far (p := ⟨p, 0, none⟩) hpK (.int .i32 1))
 have HL1 := Lib.hid l1
 have HL2 := Lib.hid l2
 clear h l1 l2 hK
 go_enter_defers Tryz.func66, Tryz.ntmps66
 go_wp2_with (go_at_call 54; refine (lock_free muLib ⟨p, 0, none⟩ _ h1 f1).mono ?_; rintro e w' ⟨rfl, rfl⟩)
 clear h1 f1
 generalize w.setCell ⟨p, 0, none⟩ (.int .i32 1) = w1 at HL1 HL2 HK ⊢
 with_reducible refine (bought1_any v 1 p K w1 HL1.out HK.out).mono ?_
 rintro _ w2 ⟨rfl, rfl⟩
 go_wp2_with fail
 exact tell_door rfl HL1.out HL2.out rfl
set_option maxRecDepth 100000 in
set_option maxHeartbeats 1000000 in
theorem bought_any (v : RV) (p : Nat) (w : World) (h : v.In 0 p w) : Calls Tryz.prog 47 #[.pointer (some ⟨p, 0, none⟩)] w (RetV v p w (.int .i64 v.bought)) := by
 have hmf : ∀ (fn : Fn) (first cap : Array Value) (w : World), (Instr.makeFunc fn first cap).run Tryz.prog w = .ok (.func fn first cap) w := fun _ _ _ _ => rfl
 have H := Lib.hid (h.below (belowA w (.cells #[.pointer (some ⟨p, 0, none⟩)] 25)))
 have HR := Lib.hid (Rs.below (v := v) (p := p) (belowA w (.cells #[.pointer (some ⟨p, 0, none⟩)] 25)))
 have HK := Lib.hid (At.new w #[.pointer (some ⟨p, 0, none⟩)] 25)
 clear h
 go_enter Tryz.func47, Tryz.ntmps47
 go_wp2_with fail
 with_reducible refine (told81_any v p w.heap.size _ H.out HK.out).mono ?_
 rintro _ w2 ⟨rfl, hi, hr⟩
 have HI := Lib.hid hi
 have HS := Lib.hid (HR.out.trans hr)
 clear hi hr H HK HR
 go_wp2_with fail
 go_ret
 exact ⟨rfl, HI.out, HS.out⟩
end Go.Proofs.YtihhclhpjgeniaaGreatDoor
namespace Go.Proofs.YtihhclhpjgeniaaGreatDoor
open Go.RowKit Go.Sort Go.MuLone
theorem dayT_len {l : List (List UInt8)} (h : ∀ t ∈ l, t.length ≤ 60) : (dayT l).length ≤ 61 * l.length := by
 induction l with
 | nil => simp [dayT]
 | cons t l ih =>
  have h1 := ih fun x hx => h x (List.mem_cons_of_mem _ hx)
  have h2 := h t List.mem_cons_self
  have : dayT (t :: l) = (t ++ [10]) ++ dayT l := by simp [dayT]
  rw [this]
  simp only [List.length_append, List.length_cons, List.length_nil]
  omega
set_option maxRecDepth 100000 in
set_option maxHeartbeats 1000000 in
theorem book_any (v : RV) (st : Int) (p : Nat) (w : World) (h : v.In st p w) (hd : v.day.length ≤ 300) (hs : ∀ t ∈ v.day, t.length ≤ 60) : Calls Tryz.prog 73 #[.pointer (some ⟨p, 0, none⟩)] w fun r w' => r = .returned (.string (mkB (dayT v.day))) ∧ Below w.heap.size w w' := by
 have H := Lib.hid h
 have hb0 := belowA w (.cells #[.pointer none, .slice none 0 0] 192)
 have c8 : (w.alloc (.cells #[.pointer none, .slice none 0 0] 192)).cell? ⟨p, 8, none⟩ = some (.slice v.E v.day.length v.ce) := At.cell (h.below hb0).room 8
 have HB0 := Lib.hid hb0
 have HI0 := Lib.hid (isB_new w)
 clear h hb0
 go_enter Tryz.func73, Tryz.ntmps73
 go_wp2_with fail
 clear c8
 generalize w.alloc (.cells #[.pointer none, .slice none 0 0] 192) = w1 at HB0 HI0 ⊢
 go_loopw [11] (fun i wr => ∃ j : Nat, j ≤ v.day.length ∧ i = .int .i64 j ∧ isB wr w.heap.size w.heap.size (dayT (v.day.take j)) ∧ Below w.heap.size w wr) (fun i _ => v.day.length - (intOf i).toNat)
 case atStart => exact ⟨0, by omega, rfl, HI0.out, HB0.out⟩
 case round =>
  obtain ⟨j, hj, rfl, hi, hb⟩ := hrel
  have HI := Lib.hid hi
  have HB := Lib.hid hb
  clear hi hb HI0 HB0
  by_cases hlt : j < v.day.length
  ·have HR := Lib.hid (H.out.below HB.out)
   obtain ⟨g, hg⟩ := own_form HR.out.rd (by omega)
   obtain ⟨t, ht⟩ : ∃ t, v.day[j]? = some t := ⟨v.day[j], List.getElem?_eq_getElem hlt⟩
   have hrd := HR.out.rd
   rw [hg] at hrd
   have ct : wr.cell? ⟨g, j, none⟩ = some (.string (mkB t)) := by
    have := hrd.cellAt j (by omega)
    rw [this]
    simp [strL, ht]
   have htl := hs t (List.mem_of_getElem? ht)
   have hno : ¬ 9223372036854775807 < t.length + 1 := by omega
   have happ : (mkB t ++ ByteArray.mk #[10]) = mkB (t ++ [10]) := mk_append t [10]
   have hlj : (j : Int) < (v.day.length : Int) := by omega
   have HT : Hid (dayT (v.day.take (j + 1)) = dayT (v.day.take j) ++ (t ++ [10])) := Lib.hid (by rw [take_succ_of ht, dayT_snoc])
   have HL := Lib.hid (dayT_len (l := v.day.take j) fun x hx => hs x (List.mem_of_mem_take hx))
   have hlen : (dayT (v.day.take j)).length + (t ++ [10]).length ≤ 1000000 := by
    have h1 := HL.out
    rw [List.length_take] at h1
    rw [List.length_append, List.length_singleton]
    omega
   have v1 : IntKind.i64.wrap ((j : Int) + 1) = ((j + 1 : Nat) : Int) := by rw [IntWalk.i64_in _ (by omega)]; push_cast; rfl
   rw [hg]
   clear hrd ht
   go_wp2_with fail
   refine (ws_any w.heap.size w.heap.size (dayT (v.day.take j)) (t ++ [10]) wr HI.out hlen HB.out.size).mono ?_
   rintro _ w3 ⟨⟨n, rfl⟩, h1, h2, _⟩
   rw [← HT.out] at h1
   have HI3 := Lib.hid h1
   have HB3 := Lib.hid (HB.out.trans h2)
   clear h1 h2 ct happ hno
   go_wp2_with fail
   exact ⟨⟨j + 1, by omega, by go_num, HI3.out, HB3.out⟩, by simp [intOf]; omega⟩
  ·have e : v.day.take j = v.day := List.take_of_length_le (by omega)
   rw [e] at HI
   have hlj : ¬ (j : Int) < (v.day.length : Int) := by omega
   go_wp2_with fail
   refine (bs_any w.heap.size w.heap.size (dayT v.day) wr HI.out HB.out.size).mono ?_
   rintro _ w3 ⟨rfl, h2⟩
   have HB3 := Lib.hid (HB.out.trans h2)
   clear h2
   go_wp2_with fail
   go_ret
   exact ⟨rfl, HB3.out⟩
set_option maxRecDepth 100000 in
set_option maxHeartbeats 1000000 in
theorem day_any (v : RV) (p : Nat) (w : World) (h : v.In 0 p w) (hd : v.day.length ≤ 300) (hs : ∀ t ∈ v.day, t.length ≤ 60) : Calls Tryz.prog 36 #[.pointer (some ⟨p, 0, none⟩)] w (RetV v p w (.string (mkB (dayT v.day)))) := by
 have h1 : w.cell? ⟨p, 0, none⟩ = some (.int .i32 0) := At.cell h.room 0
 have f1 : w.frozen? ⟨p, 0, none⟩ = false := h.room.fz 0
 obtain ⟨l1, l2⟩ := h.lock 1
 have HL1 := Lib.hid l1
 have HL2 := Lib.hid l2
 clear h l1 l2
 go_enter_defers Tryz.func36, Tryz.ntmps36
 go_wp2_with (go_at_call 54; refine (lock_free muLib ⟨p, 0, none⟩ _ h1 f1).mono ?_; rintro e w' ⟨rfl, rfl⟩)
 clear h1 f1
 generalize w.setCell ⟨p, 0, none⟩ (.int .i32 1) = w1 at HL1 HL2 ⊢
 with_reducible refine (book_any v 1 p w1 HL1.out hd hs).mono ?_
 rintro _ w2 ⟨rfl, hb⟩
 have HL3 := Lib.hid (HL1.out.below hb)
 have HR3 := Lib.hid (HL2.out.grow hb)
 clear hb HL1 HL2
 go_wp2_with fail
 exact tell_door rfl HL3.out HR3.out rfl
end Go.Proofs.YtihhclhpjgeniaaGreatDoor
namespace Go.Proofs.YtihhclhpjgeniaaGreatDoor
open Go.RowKit Go.Sort Go.MuLone
theorem runG (l : List (List UInt8)) : (runR l rm0).Good := by
 refine snoc_ind (P := fun l => (runR l rm0).Good) rm0_good ?_ l
 intro l t h
 rw [runR_snoc]
 exact good_do h t
theorem Rs.fresh {v v' : RV} {p N : Nat} {w w' : World} (h : Rs p v w v' w') (hF : ∀ k, v.F p k ∨ v.C k → N ≤ k) (hN : N ≤ w.heap.size) : Below N w w' ∧ ∀ k, v'.F p k ∨ v'.C k → N ≤ k :=
 ⟨⟨h.kp.os, h.kp.tape, h.kp.output, h.kp.size, fun b hb => h.kp.block b (by omega) fun hf => by have := hF b (.inl hf); omega⟩, fun k hk => by
  rcases hk with hk | hk
  ·rcases h.f k hk with h1 | h1
   ·exact hF k (.inl h1)
   ·omega
  ·rcases h.c k hk with h1 | h1
   ·exact hF k (.inr h1)
   ·omega⟩
end Go.Proofs.YtihhclhpjgeniaaGreatDoor
namespace Go.Proofs.YtihhclhpjgeniaaGreatDoor
open Go.RowKit Go.Sort Go.MuLone
theorem cloneI_any (A : Option Addr) (n c : Nat) (xs : List Int) (w : World) (hl : Reads w w.heap.size 1 A n (ints xs)) (hn : n ≤ 1000000) :
  Calls Tryz.prog 121 #[.slice A n c] w (RetRow 3 1 n (ints xs) w) := by
 have HL := Lib.hid hl
 cases A with
 | none =>
  have h0 : n = 0 := by
   rcases Nat.eq_zero_or_pos n with h | h
   ·exact h
   ·obtain ⟨p, hp, _⟩ := hl.look h; cases hp
  subst h0
  clear hl
  have N0 := fun w => Lib.run_eql_slice_nil (P := Tryz.prog) w 54 3 none 0 c 0 0 Tryz.underlying54
  go_enter Tryz.func121, Tryz.ntmps121
  go_wp2_with fail
  go_ret
  have : ints xs = [] := List.eq_nil_of_length_eq_zero (by have := HL.out.1; omega)
  exact ⟨none, 0, rfl, by rw [this]; exact World.ownsRow_nil _ _ _ _, Below.refl _ _⟩
 | some ad =>
  clear hl
  have hlen : n ≤ 1000000000 := by omega
  have N0 := fun w => Lib.run_eql_slice_nil (P := Tryz.prog) w 54 3 (some ad) n c 0 0 Tryz.underlying54
  go_enter Tryz.func121, Tryz.ntmps121
  go_wp2_with (at_builtin; refine wpList_copyR rfl _ _ 54 3 rfl Tryz.underlying54 info3h rfl (by omega) (by omega) w rfl rfl HL.out (ints_one _) hlen ?_; intro B d w1 hr1 hb1; have HR1 := Lib.hid hr1; have HB1 := Lib.hid hb1; clear hr1 hb1)
  go_ret
  exact ⟨B, d, rfl, HR1.out, HB1.out⟩
structure XS (N : Nat) (u : BV) (W : World) : Prop where
 b : At W N u.arr 56
 i : u.In W
 o : At W (N + 1) noArr 56
theorem XS.below {N : Nat} {u : BV} {W W' : World} (h : XS N u W) (hb : Below W.heap.size W W') : XS N u W' := ⟨h.b.below hb, h.i.below hb, h.o.below hb⟩
theorem BV.ln {u : BV} {w : World} (h : u.In w) : u.n ≤ 1000000 ∧ u.m ≤ 1000000 := by
 have h1 := h.nr
 have h2 := h.mw
 exact ⟨by rw [h1]; exact Nat.le_trans h.ok.r (by decide), by rw [h2]; exact Nat.le_trans h.ok.w (by decide)⟩
set_option maxRecDepth 100000 in
set_option maxHeartbeats 1000000 in
theorem copyB_any (u : BV) (w : World) (hu : u.In w) : Calls Tryz.prog 69 #[.agg u.arr] w (RetH u.h w) := by
 have HL := Lib.hid (BV.ln hu)
 have HOK := Lib.hid hu.ok
 have HX : Hid (XS w.heap.size u _) := Lib.hid ⟨(At.new w u.arr 56).al (.cells noArr 56), hu.below (bel2 w (.cells u.arr 56) (.cells noArr 56)), at_n1 w (.cells u.arr 56) noArr 56⟩
 have HB := Lib.hid (bel2 w (.cells u.arr 56) (.cells noArr 56))
 clear hu
 go_enter Tryz.func69, Tryz.ntmps69
 go_wp2_with fail
 generalize ((w.alloc (.cells _ 56)).alloc (.cells _ 56)) = w1 at HX HB ⊢
 refine wp_region_hk [0, 1, 3, 4] [6] [2, 5, 7] (fun W => XS w.heap.size u W) mixed (by kernel_rfl) (fun W W' h hb => h.below hb) (HX.out.below (below_drew _)) ?_
 iterate 4
  refine canonG_read (v := ?_) rfl (by rfl) ?_ ?_
  rotate_left
  ·intro W hS
   have cb := hS.b.cell
   go_simp <;> with_reducible rfl
  simp only [List.getElem_toArray, List.getElem_cons_zero, List.getElem_cons_succ, Act.put, List.setIfInBounds_toArray, List.set_cons_succ, List.set_cons_zero]
 refine canonG_nil ?_
 refine tailK_one (t := 2) (ts' := [5, 7]) (ps' := [6]) (ns := []) (by kernel_rfl) rfl (by kernel_rfl) (by kernel_rfl) rfl (by kernel_rfl) ?_
 intro w2 hb
 have HX2 := Lib.hid (HX.out.below (undrew hb))
 have HB2 := Lib.hid (below_trans' HB.out (undrew hb))
 clear hb HX HB
 go_wp2_with fail
 with_reducible refine (cloneI_any u.A u.n u.c u.h.R w2 HX2.out.i.r HL.out.1).mono ?_
 rintro _ w3 ⟨A, c, rfl, ho, hb⟩
 have HX3 := Lib.hid (HX2.out.below hb)
 have HB3 := Lib.hid (below_trans' HB2.out hb)
 have HA := Lib.hid ho
 have HZ : Hid (w.heap.size + 2 ≤ w2.heap.size) := Lib.hid (by have := HX2.out.o.lt; omega)
 clear hb ho HX2 HB2
 go_wp2_with fail
 refine ⟨HX3.out, canonG_nil ?_⟩
 refine tailK_one (t := 5) (ts' := [7]) (ps' := []) (ns := [6]) (by kernel_rfl) rfl (by kernel_rfl) (by kernel_rfl) rfl (by kernel_rfl) ?_
 intro w4 hb
 have HX4 := Lib.hid (HX3.out.below hb)
 have HB4 := Lib.hid (below_trans' HB3.out hb)
 have HA4 := Lib.hid (row_on HA.out hb)
 have HZ4 : Hid (w.heap.size + 2 ≤ w4.heap.size) := Lib.hid (by have := HX4.out.o.lt; omega)
 clear hb HX3 HB3 HA
 go_wp2_with fail
 with_reducible refine (cloneI_any u.B u.m u.d u.h.W w4 HX4.out.i.s HL.out.2).mono ?_
 rintro _ w5 ⟨B, d, rfl, ho, hb⟩
 have HX5 := Lib.hid (HX4.out.below hb)
 have HB5 := Lib.hid (below_trans' HB4.out hb)
 have HA5 := Lib.hid (row_on HA4.out hb)
 have HC5 := Lib.hid ho
 clear hb ho HX4 HB4 HA4
 go_wp2_with fail
 refine ⟨HX5.out, ?_⟩
 iterate 1
  refine canonG_read (v := ?_) rfl (by rfl) ?_ ?_
  rotate_left
  ·intro W hS
   go_simp <;> with_reducible rfl
  simp only [List.getElem_toArray, List.getElem_cons_zero, List.getElem_cons_succ, Act.put, List.setIfInBounds_toArray, List.set_cons_succ, List.set_cons_zero]
 refine canonG_nil ?_
 refine tailK_last (t := 7) (by kernel_rfl) rfl ?_
 intro w6 hb
 have HX6 := Lib.hid (HX5.out.below hb)
 have HB6 := Lib.hid (below_trans' HB5.out hb)
 have HA6 := Lib.hid (row_on HA5.out hb)
 have HC6 := Lib.hid (row_on HC5.out hb)
 clear hb HX5 HB5 HA5 HC5
 have fr := HX6.out.o.fz
 have cr := HX6.out.o.cell
 go_wp2_with fail
 refine NoPanic.normal ?_
 go_wp2_with fail
 refine bodyPost_ret (retBE1 2 (w.heap.size + 1) #[.slice A u.n c, .slice B u.m d] rfl rfl ((HX6.out.o.set 0 _).set 1 _) rfl) rfl ?_
 have k := (((Kp.refl (fun j => j = w.heap.size + 1) w6).set (p := ⟨w.heap.size + 1, 0, none⟩) (fun _ => rfl) (.slice A u.n c)).set (p := ⟨w.heap.size + 1, 1, none⟩) (fun _ => rfl) (.slice B u.m d))
 have hA : ∀ b, (Value.slice A u.n c).ownBlock = some b → w.heap.size + 2 ≤ b := fun b hb => Nat.le_trans HZ.out (HA6.out.lt b hb).1
 have hB : ∀ b, (Value.slice B u.m d).ownBlock = some b → w.heap.size + 2 ≤ b := fun b hb => Nat.le_trans HZ4.out (HC6.out.lt b hb).1
 refine ⟨⟨u.h, A, B, u.n, c, u.m, d⟩, rfl, rfl, ⟨(Reads.of_own HA6.out).kb k ?_, (Reads.of_own HC6.out).kb k ?_, (row_cap HA6.out).1, (row_cap HC6.out).1, HOK.out⟩, ?_, below_put (below_put HB6.out (p := ⟨w.heap.size + 1, 0, none⟩) (show w.heap.size ≤ w.heap.size + 1 by omega) _) (p := ⟨w.heap.size + 1, 1, none⟩) (show w.heap.size ≤ w.heap.size + 1 by omega) _⟩
 ·rintro b ⟨_, a, ha, hb⟩ e
  have := hA b (by rw [ha, ← hb]; rfl); omega
 ·rintro b ⟨_, a, ha, hb⟩ e
  have := hB b (by rw [ha, ← hb]; rfl); omega
 ·rintro b (⟨_, a, ha, hb⟩ | ⟨_, a, ha, hb⟩)
  ·have := hA b (by rw [show A = some a from ha, ← hb]; rfl); omega
  ·have := hB b (by rw [show B = some a from ha, ← hb]; rfl); omega
end Go.Proofs.YtihhclhpjgeniaaGreatDoor
namespace Go.Proofs.YtihhclhpjgeniaaGreatDoor
open Go.RowKit Go.Sort Go.MuLone
theorem RV.In.putq {v : RV} {s : Int} {p q : Nat} {W : World} (h : v.In s p W) (hq : ∀ k, v.F p k ∨ v.C k → k ≠ q) (i : Nat) (u : Value) : v.In s p (W.setCell ⟨q, i, none⟩ u) :=
 h.kp ((Kp.refl (fun j => j = q) W).set (p := ⟨q, i, none⟩) (fun _ => rfl) u) fun b hb e => hq b hb e
theorem Rs.put {v v' : RV} {p q : Nat} {w W : World} (h : Rs p v w v' W) (hq : w.heap.size ≤ q) (i : Nat) (u : Value) : Rs p v w v' (W.setCell ⟨q, i, none⟩ u) :=
 ⟨h.kp.set (p := ⟨q, i, none⟩) (fun hl => by have : q < w.heap.size := hl; omega) u, h.f, h.c⟩
theorem retB2 {fn : Func} {tmps : Array Value} {w : World} (p u : _root_.Go.Tmp) (g : Nat) (cs : Array Value) (h : fn.results = #[.cell p 56, .tmp u]) (hp : tmps.getD p undef = .pointer (some ⟨g, 0, none⟩)) (hg : At w g cs 56) (hc : cs.size = 2) :
  (results fn tmps).run Tryz.prog w = .ok (.tuple #[.agg cs, tmps.getD u undef]) w := by
 rw [results_cell_tmp h, hp]
 simp [asAddr, run_loadVar_row w g 56 56 cs (0, 0) _ hg Tryz.underlying56 rfl (by rw [hc]; kernel_rfl)]
def RetBd (v : RV) (p : Nat) (s : List UInt8) (w : World) (r : Ending) (w' : World) : Prop :=
 ∃ (u : BV) (e : Int), r = .returned (.tuple #[.agg u.arr, .int .i64 e]) ∧ u.In w' ∧ (match v.rm.bun s with | none => e = 5 ∧ u.h = noH | some k => e = 0 ∧ u.h = v.rm.hr k) ∧ v.In 0 p w' ∧ Rs p v w v w'
theorem bd_door {v : RV} {p q : Nat} {w W : World} {tmps : Array Value} {s : List UInt8} {u : BV} {e : Int} {cs : Array Value} (_hcs : cs.size = 2) (hi : v.In 1 p W) (hr : Rs p v w v W) (hq : w.heap.size ≤ q) (hqn : ∀ k, v.F p k ∨ v.C k → k ≠ q) (hk : At W q cs 56) (hu : u.In W) (hun : ∀ k, blk u.A u.n k ∨ blk u.B u.m k → k ≠ q ∧ k ≠ p)
  (hm : match v.rm.bun s with | none => e = 5 ∧ u.h = noH | some k => e = 0 ∧ u.h = v.rm.hr k) (h4 : tmps.getD 4 undef = .pointer (some ⟨q, 0, none⟩)) (h5 : tmps.getD 5 undef = .int .i64 e) (hce : (cs.setIfInBounds 0 (.slice u.A u.n u.c)).setIfInBounds 1 (.slice u.B u.m u.d) = u.arr) :
  bodyPostD Tryz.prog Tryz.f28 (RetBd v p s w) Exit.ret { tmps := tmps, defers := [{ target := .fn (.func 55) #[], args := #[.pointer (some ⟨p, 0, none⟩)] }] } ((W.setCell ⟨q, 0, none⟩ (.slice u.A u.n u.c)).setCell ⟨q, 1, none⟩ (.slice u.B u.m u.d)) := by
 have i2 := (hi.putq hqn 0 (.slice u.A u.n u.c)).putq hqn 1 (.slice u.B u.m u.d)
 have r2 := (hr.put hq 0 (.slice u.A u.n u.c)).put hq 1 (.slice u.B u.m u.d)
 have k2 := (hk.set 0 (.slice u.A u.n u.c)).set 1 (.slice u.B u.m u.d)
 rw [hce] at k2
 obtain ⟨a, b⟩ := i2.lock 0
 have hpq : q ≠ p := fun e => hqn p (.inl (.inl rfl)) e.symm
 have k3 := k2.far (p := ⟨p, 0, none⟩) hpq (.int .i32 0)
 have kp := (((Kp.refl (fun j => j = q ∨ j = p) W).set (p := ⟨q, 0, none⟩) (fun _ => .inl rfl) (.slice u.A u.n u.c)).set (p := ⟨q, 1, none⟩) (fun _ => .inl rfl) (.slice u.B u.m u.d)).set (p := ⟨p, 0, none⟩) (fun _ => .inr rfl) (.int .i32 0)
 refine unlock_door (At.cell i2.room 0) (i2.room.fz 0) (retB2 4 5 q u.arr rfl h4 k3 rfl) ?_
 rw [h5]
 exact ⟨u, e, rfl, hu.kb kp (fun j hj e => e.elim (hun j (.inl hj)).1 (hun j (.inl hj)).2) (fun j hj e => e.elim (hun j (.inr hj)).1 (hun j (.inr hj)).2), hm, a, r2.trans b⟩
set_option maxRecDepth 100000 in
set_option maxHeartbeats 1000000 in
theorem bundle_any (v : RV) (p : Nat) (s : List UInt8) (w : World) (h : v.In 0 p w) (hlb : v.bs.length ≤ 12) : Calls Tryz.prog 28 #[.pointer (some ⟨p, 0, none⟩), .string (mkB s)] w (RetBd v p s w) := by
 have hb0 := belowA w (.cells noArr 56)
 have h0 := h.below hb0
 have h1 : (w.alloc (.cells noArr 56)).cell? ⟨p, 0, none⟩ = some (.int .i32 0) := At.cell h0.room 0
 have f1 : (w.alloc (.cells noArr 56)).frozen? ⟨p, 0, none⟩ = false := h0.room.fz 0
 obtain ⟨l1, l2⟩ := h0.lock 1
 have HLT : Hid (∀ k, v.F p k ∨ v.C k → k < w.heap.size) := Lib.hid fun k hk => h.lt hk
 have HL1 := Lib.hid l1
 have HR1 := Lib.hid ((Rs.below (v := v) (p := p) hb0).trans l2)
 have hpq : w.heap.size ≠ p := fun e => by have := HLT.out p (.inl (.inl rfl)); omega
 have HK1 := Lib.hid ((At.new w noArr 56).far (p := ⟨p, 0, none⟩) hpq (.int .i32 1))
 have HQ : Hid (∀ k, v.F p k ∨ v.C k → k ≠ w.heap.size) := Lib.hid (fun k hk e => by have := HLT.out k hk; omega)
 clear h hb0 h0 l1 l2 hpq
 go_enter_defers Tryz.func28, Tryz.ntmps28
 go_wp2_with (go_at_call 54; refine (lock_free muLib ⟨p, 0, none⟩ _ h1 f1).mono ?_; rintro e w' ⟨rfl, rfl⟩)
 clear h1 f1
 generalize (w.alloc (.cells noArr 56)).setCell ⟨p, 0, none⟩ (.int .i32 1) = w1 at HL1 HR1 HK1 ⊢
 with_reducible refine (bundleR_any v 1 p s w1 HL1.out hlb).mono ?_
 rintro _ w2 ⟨rfl, hb⟩
 have HL2 := Lib.hid (HL1.out.below hb)
 have HR2 := Lib.hid (HR1.out.grow hb)
 have HK2 := Lib.hid (HK1.out.below hb)
 clear hb HL1 HR1 HK1
 cases hbb : v.rm.bun s with
 | none =>
  have HBB := Lib.hid hbb
  rw [show idxI none = -1 from rfl]
  have cr := HK2.out.cell
  have fr := HK2.out.fz
  clear hbb
  go_wp2_with fail
  exact bd_door (u := noB) rfl HL2.out HR2.out (Nat.le_refl _) HQ.out HK2.out (noB_in _) (fun k hk => by rcases hk with ⟨h, _⟩ | ⟨h, _⟩ <;> exact absurd rfl h) (by rw [HBB.out]; exact ⟨rfl, rfl⟩) rfl rfl rfl
 | some k =>
  rw [show idxI (some k) = (k : Int) from rfl]
  have hkn : ¬ ((k : Int) < 0) := by omega
  have HBB := Lib.hid hbb
  obtain ⟨y2, hy2, gb, hgb⟩ : ∃ y2 : NB, v.bs[k]? = some y2 ∧ ∃ gb, v.A = some ⟨gb, 0, none⟩ := by
   rw [bun_idx] at hbb
   obtain ⟨hk, _⟩ := List.findIdx?_eq_some_iff_getElem.1 hbb
   refine ⟨v.bs[k], List.getElem?_eq_getElem hk, ?_⟩
   exact own_form HL2.out.rb (by omega)
  have HY2 := Lib.hid hy2
  have hkl : k < v.bs.length := (List.getElem?_eq_some_iff.1 hy2).1
  have hkl' : (k : Int) < (v.bs.length : Int) := by omega
  have HHR : Hid (v.rm.hr k = y2.v.h) := Lib.hid (by rw [bs_at, hy2]; rfl)
  have hrob := HL2.out.rb
  have c2 : w2.cell? ⟨p, 2, none⟩ = some (.slice v.A v.bs.length v.ca) := At.cell HL2.out.room 2
  rw [hgb] at c2 hrob
  have b1 : w2.cell? ⟨gb, k * 3 + 1, none⟩ = some (.slice y2.v.A y2.v.n y2.v.c) := own_cell nb_len (by omega) hrob hy2 (j := 1) (by omega)
  have b2 : w2.cell? ⟨gb, k * 3 + 1 + 1, none⟩ = some (.slice y2.v.B y2.v.m y2.v.d) := own_cell nb_len (by omega) hrob hy2 (j := 2) (by omega)
  clear hrob hbb hy2 hgb
  go_wp2_with fail
  clear c2 b1 b2
  have hin := HL2.out.hb y2 (List.mem_of_getElem? HY2.out)
  with_reducible refine (copyB_any y2.v w2 hin).mono ?_
  rintro _ w3 ⟨u, hu, rfl, hui, hun, hb⟩
  have HL3 := Lib.hid (HL2.out.below hb)
  have HR3 := Lib.hid (HR2.out.grow hb)
  have HK3 := Lib.hid (HK2.out.below hb)
  have HU := Lib.hid hu
  have HI := Lib.hid hui
  have HN : Hid (∀ k, blk u.A u.n k ∨ blk u.B u.m k → k ≠ w.heap.size ∧ k ≠ p) := Lib.hid (fun k hk => by have h1 := hun k hk; have h2 := HK2.out.lt; have h3 := HL2.out.lt (.inl (.inl rfl) : v.F p p ∨ v.C p); omega)
  clear hb hu hui hun HL2 HR2 HK2 hin
  have cr := HK3.out.cell
  have fr := HK3.out.fz
  go_wp2_with fail
  exact bd_door rfl HL3.out HR3.out (Nat.le_refl _) HQ.out HK3.out HI.out HN.out (by rw [HBB.out]; exact ⟨rfl, by rw [HU.out, HHR.out]⟩) rfl rfl rfl
end Go.Proofs.YtihhclhpjgeniaaGreatDoor
