/- Merged texts: Kc -/
import Derived.Test.YtihhclhpjgeniaaGreatDoorSB16
namespace Go.Proofs.YtihhclhpjgeniaaGreatDoor
open Go.RowKit Go.Sort
theorem Rs.step {S : Nat → Prop} {p : Nat} {v0 v v2 : RV} {w0 w w' : World} (h : Rs p v0 w0 v w) (k : Kp S w w') (hS : ∀ x, x < w.heap.size → S x → v.F p x) (hF : ∀ j, v2.F p j → v.F p j ∨ w0.heap.size ≤ j) (hC : ∀ j, v2.C j → v.C j ∨ w0.heap.size ≤ j) : Rs p v0 w0 v2 w' := by
 refine ⟨?_, fun j hj => ?_, fun j hj => ?_⟩
 ·refine h.kp.trans k fun x hx hs => ?_
  rcases h.f x (hS x (Nat.lt_of_lt_of_le hx h.kp.size) hs) with h1 | h1
  ·exact h1
  ·omega
 ·rcases hF j hj with h1 | h1
  ·exact h.f j h1
  ·exact .inr h1
 ·rcases hC j hj with h1 | h1
  ·exact h.c j h1
  ·exact .inr h1
theorem kp_of_grown {w w' : World} {g : Nat} (h : w.grownBy w' (some g)) : Kp (· = g) w w' := (Kp.refl (fun x => x = g) w).grown h fun k hk _ => by injection hk with hk; exact hk.symm
theorem mem_set {α : Type} {l : List α} {i : Nat} {a x : α} (h : x ∈ l.set i a) : x ∈ l ∨ x = a := List.mem_or_eq_of_mem_set h
section
variable {v : RV} {s : Int} {p : Nat} {w : World}
theorem RV.In.putB (h : v.In s p w) {g i : Nat} (hg : v.A = some ⟨g, 0, none⟩) {b : NB} (hi : v.bs[i]? = some b) {u : BV} (hu : u.In w) (hn : ∀ k, blk u.A u.n k ∨ blk u.B u.m k → ¬ v.F p k ∧ 8 ≤ k) :
  ({ v with bs := v.bs.set i ⟨b.name, u⟩ } : RV).In s p (w.setCells g (i * 3 + 1) [.slice u.A u.n u.c, .slice u.B u.m u.d]) ∧ Kp (· = g) w (w.setCells g (i * 3 + 1) [.slice u.A u.n u.c, .slice u.B u.m u.d]) ∧
   (∀ k, ({ v with bs := v.bs.set i ⟨b.name, u⟩ } : RV).C k → v.C k ∨ blk u.A u.n k ∨ blk u.B u.m k) := by
 obtain ⟨n1, n2, n3, n4⟩ := h.ne_b hg
 have hr := h.rb
 rw [hg] at hr
 obtain ⟨r1, r2⟩ := own_put (j := 1) (b := ⟨b.name, u⟩) (vs := [.slice u.A u.n u.c, .slice u.B u.m u.d]) nb_len (by omega) hr hi (by simp) rfl
 have k := kp_of_grown r2
 have hF : v.F p g := .inr (.inr (.inl ⟨_, hg, rfl⟩))
 have hc : ∀ j, v.C j → ¬ j = g := fun j hj e => h.sep j hj (by rw [e]; exact hF)
 have hC : ∀ k, ({ v with bs := v.bs.set i ⟨b.name, u⟩ } : RV).C k → v.C k ∨ blk u.A u.n k ∨ blk u.B u.m k := by
  rintro k (⟨x, hx, hk⟩ | hk)
  ·rcases mem_set hx with hx | rfl
   ·exact .inl (.inl ⟨x, hx, hk⟩)
   ·exact .inr hk
  ·exact .inl (.inr hk)
 refine ⟨⟨?_, ?_, ?_, ?_, ?_, ?_, ?_, ?_, ?_⟩, k, hC⟩
 ·have := h.room.kp k fun e => n1 e.symm
  have e : ({ v with bs := v.bs.set i ⟨b.name, u⟩ } : RV).cells s = v.cells s := by simp [RV.cells]
  rw [e]; exact this
 ·show World.ownsRow _ 0 130 3 (.slice v.A (v.bs.set i ⟨b.name, u⟩).length v.ca) (v.bs.set i ⟨b.name, u⟩).length _
  rw [List.length_set, hg]; exact r1
 ·exact own_kp h.rw k fun b hb e => by obtain ⟨a, ha, hk⟩ := ownb hb; exact n3 a ha (hk.trans e)
 ·exact own_kp h.rd k fun b hb e => by obtain ⟨a, ha, hk⟩ := ownb hb; exact n4 a ha (hk.trans e)
 ·exact h.mp.kp k fun e => n2 e.symm
 ·intro x hx
  rcases mem_set hx with hx | rfl
  ·exact (h.hb x hx).kb k (fun j hj => hc j (.inl ⟨x, hx, .inl hj⟩)) (fun j hj => hc j (.inl ⟨x, hx, .inr hj⟩))
  ·exact hu.kb k (fun j hj e => (hn j (.inl hj)).1 (by rw [e]; exact hF)) (fun j hj e => (hn j (.inr hj)).1 (by rw [e]; exact hF))
 ·exact fun x hx => ⟨(h.hw x hx).1.kb k (fun j hj => hc j (.inr ⟨x, hx, hj⟩)), (h.hw x hx).2⟩
 ·intro j hj
  rcases hC j hj with h1 | h1
  ·exact h.sep j h1
  ·exact (hn j h1).1
 ·rintro j (hj | hj)
  ·exact h.g j (.inl hj)
  ·rcases hC j hj with h1 | h1
   ·exact h.g j (.inr h1)
   ·exact (hn j h1).2
theorem RV.In.putW (h : v.In s p w) {g i : Nat} (hg : v.B = some ⟨g, 0, none⟩) {x y : NW} (hi : v.ws[i]? = some x) {j : Nat} {vs : List Value} (hj : j + vs.length ≤ 13) (hy : y.cells = ovr x.cells j vs)
  (hr : Reads w w.heap.size 6 y.A y.n (ents y.w.card) ∧ y.n ≤ y.c) (hn : ∀ k, blk y.A y.n k → ¬ v.F p k ∧ 8 ≤ k) :
  ({ v with ws := v.ws.set i y } : RV).In s p (w.setCells g (i * 13 + j) vs) ∧ Kp (· = g) w (w.setCells g (i * 13 + j) vs) ∧
   (∀ k, ({ v with ws := v.ws.set i y } : RV).C k → v.C k ∨ blk y.A y.n k) := by
 obtain ⟨n1, n2, n3, n4⟩ := h.ne_w hg
 have hr' := h.rw
 rw [hg] at hr'
 obtain ⟨r1, r2⟩ := own_put (j := j) (b := y) (vs := vs) nw_len (by omega) hr' hi hj hy
 have k := kp_of_grown r2
 have hF : v.F p g := .inr (.inr (.inr (.inl ⟨_, hg, rfl⟩)))
 have hc : ∀ j, v.C j → ¬ j = g := fun j hj e => h.sep j hj (by rw [e]; exact hF)
 have hC : ∀ k, ({ v with ws := v.ws.set i y } : RV).C k → v.C k ∨ blk y.A y.n k := by
  rintro k (hk | ⟨x, hx, hk⟩)
  ·exact .inl (.inl hk)
  ·rcases mem_set hx with hx | rfl
   ·exact .inl (.inr ⟨x, hx, hk⟩)
   ·exact .inr hk
 refine ⟨⟨?_, ?_, ?_, ?_, ?_, ?_, ?_, ?_, ?_⟩, k, hC⟩
 ·have := h.room.kp k fun e => n1 e.symm
  have e : ({ v with ws := v.ws.set i y } : RV).cells s = v.cells s := by simp [RV.cells]
  rw [e]; exact this
 ·exact own_kp h.rb k fun b hb e => by obtain ⟨a, ha, hk⟩ := ownb hb; exact n3 a ha (hk.trans e)
 ·show World.ownsRow _ 0 126 13 (.slice v.B (v.ws.set i y).length v.cb) (v.ws.set i y).length _
  rw [List.length_set, hg]; exact r1
 ·exact own_kp h.rd k fun b hb e => by obtain ⟨a, ha, hk⟩ := ownb hb; exact n4 a ha (hk.trans e)
 ·exact h.mp.kp k fun e => n2 e.symm
 ·exact fun x hx => (h.hb x hx).kb k (fun j hj => hc j (.inl ⟨x, hx, .inl hj⟩)) (fun j hj => hc j (.inl ⟨x, hx, .inr hj⟩))
 ·intro x hx
  rcases mem_set hx with hx | rfl
  ·exact ⟨(h.hw x hx).1.kb k (fun j hj => hc j (.inr ⟨x, hx, hj⟩)), (h.hw x hx).2⟩
  ·exact ⟨hr.1.kb k (fun j hj e => (hn j hj).1 (by rw [e]; exact hF)), hr.2⟩
 ·intro j hj
  rcases hC j hj with h1 | h1
  ·exact h.sep j h1
  ·exact (hn j h1).1
 ·rintro j (hj | hj)
  ·exact h.g j (.inl hj)
  ·rcases hC j hj with h1 | h1
   ·exact h.g j (.inr h1)
   ·exact (hn j h1).2
theorem kp_grown_row {w w' : World} {A : Option Addr} {n c : Nat} (h : w.grownBy w' (Value.slice A n c).ownBlock) : Kp (fun k => ∃ a, A = some a ∧ a.block = k) w w' :=
 (Kp.refl _ w).grown h fun _ hk _ => ownb hk
theorem RV.In.addB (h : v.In s p w) {b : NB} (hu : b.v.In w) (hn : ∀ k, blk b.v.A b.v.n k ∨ blk b.v.B b.v.m k → ¬ v.F p k ∧ 8 ≤ k) {A' : Option Addr} {c' : Nat} {w1 : World}
  (ho : w1.ownsRow 0 130 3 (.slice A' (v.bs.length + 1) c') (v.bs.length + 1) (v.bs.flatMap NB.cells ++ b.cells)) (hg : w.grownBy w1 (Value.slice v.A v.bs.length v.ca).ownBlock) (hl : A' = v.A ∨ ∀ q, A' = some q → w.heap.size ≤ q.block) :
  ({ v with A := A', ca := c', bs := v.bs ++ [b] } : RV).In s p (w1.setCell ⟨p, 2, none⟩ (.slice A' (v.bs.length + 1) c')) ∧
   Kp (fun k => k = p ∨ ∃ a, v.A = some a ∧ a.block = k) w (w1.setCell ⟨p, 2, none⟩ (.slice A' (v.bs.length + 1) c')) ∧
   (∀ k, ({ v with A := A', ca := c', bs := v.bs ++ [b] } : RV).F p k → v.F p k ∨ w.heap.size ≤ k) ∧ (∀ k, ({ v with A := A', ca := c', bs := v.bs ++ [b] } : RV).C k → v.C k ∨ blk b.v.A b.v.n k ∨ blk b.v.B b.v.m k) := by
 obtain ⟨n1, n2, n3, n4⟩ := h.ne_p
 have k1 := kp_grown_row hg
 have k2 : Kp (fun k => k = p ∨ ∃ a, v.A = some a ∧ a.block = k) w (w1.setCell ⟨p, 2, none⟩ (.slice A' (v.bs.length + 1) c')) := (k1.mono fun x e => .inr e).set (p := ⟨p, 2, none⟩) (fun _ => .inl rfl) _
 have hS : ∀ j, (j = p ∨ ∃ a, v.A = some a ∧ a.block = j) → v.F p j := by
  rintro j (rfl | e)
  ·exact .inl rfl
  ·exact .inr (.inr (.inl e))
 have hF : ∀ k, ({ v with A := A', ca := c', bs := v.bs ++ [b] } : RV).F p k → v.F p k ∨ w.heap.size ≤ k := by
  rintro k (e | e | ⟨a, ha, e⟩ | e | e)
  ·exact .inl (.inl e)
  ·exact .inl (.inr (.inl e))
  ·rcases hl with rfl | hl
   ·exact .inl (.inr (.inr (.inl ⟨a, ha, e⟩)))
   ·exact .inr (e ▸ hl a ha)
  ·exact .inl (.inr (.inr (.inr (.inl e))))
  ·exact .inl (.inr (.inr (.inr (.inr e))))
 have hC : ∀ k, ({ v with A := A', ca := c', bs := v.bs ++ [b] } : RV).C k → v.C k ∨ blk b.v.A b.v.n k ∨ blk b.v.B b.v.m k := by
  rintro k (⟨x, hx, hk⟩ | hk)
  ·rcases List.mem_append.1 hx with hx | hx
   ·exact .inl (.inl ⟨x, hx, hk⟩)
   ·rw [List.mem_singleton.1 hx] at hk; exact .inr hk
  ·exact .inl (.inr hk)
 have hlt : ∀ k, ({ v with A := A', ca := c', bs := v.bs ++ [b] } : RV).C k → k < w.heap.size ∧ ¬ v.F p k ∧ 8 ≤ k := by
  intro k hk
  rcases hC k hk with h1 | h1
  ·exact ⟨h.lt (.inr h1), h.sep k h1, h.g k (.inr h1)⟩
  ·refine ⟨?_, hn k h1⟩
   rcases h1 with h1 | h1
   ·exact hu.r.blk_lt h1
   ·exact hu.s.blk_lt h1
 have hne : ∀ j, (∃ a, v.A = some a ∧ a.block = j) → ∀ {B : Option Addr} {e n c sz : Nat} {xs : List Value}, w.ownsRow 0 e sz (.slice B n c) n xs → e ≠ 130 → ∀ a, B = some a → a.block ≠ j := by
  rintro j ⟨a, ha, rfl⟩ B e n c sz xs hB he a' ha' e'
  obtain ⟨_, cs, fr, hb⟩ := row_addr h.rb ha
  obtain ⟨_, cs', fr', hb'⟩ := row_addr hB ha'
  rw [e', hb] at hb'
  simp only [Option.some.injEq, Obj.cells.injEq] at hb'
  exact he hb'.2.1.symm
 refine ⟨⟨?_, ?_, ?_, ?_, ?_, ?_, ?_, ?_, ?_⟩, k2, hF, hC⟩
 ·have := (h.room.kp k1 fun ⟨a, ha, e⟩ => n2 a ha e).set 2 (.slice A' (v.bs.length + 1) c')
  have e : ({ v with A := A', ca := c', bs := v.bs ++ [b] } : RV).cells s = (v.cells s).setIfInBounds 2 (.slice A' (v.bs.length + 1) c') := by simp [RV.cells]
  rw [e]; exact this
 ·show World.ownsRow _ 0 130 3 (.slice A' (v.bs ++ [b]).length c') (v.bs ++ [b]).length ((v.bs ++ [b]).flatMap NB.cells)
  rw [List.length_append, List.flatMap_append, List.length_singleton, List.flatMap_cons, List.flatMap_nil, List.append_nil]
  refine row_far ho ?_ _
  intro k hk e
  obtain ⟨a, ha, hb⟩ := ownb hk
  have e' : a.block = p := hb.trans e
  rcases hl with rfl | hl
  ·exact n2 a ha e'
  ·have := hl a ha; have := h.room.lt; omega
 ·exact own_kp h.rw k2 fun j hj e => by
   obtain ⟨a, ha, hk⟩ := ownb hj
   rcases e with e | e
   ·exact n3 a ha (hk.trans e)
   ·exact hne j e h.rw (by omega) a ha hk
 ·exact own_kp h.rd k2 fun j hj e => by
   obtain ⟨a, ha, hk⟩ := ownb hj
   rcases e with e | e
   ·exact n4 a ha (hk.trans e)
   ·exact hne j e h.rd (by omega) a ha hk
 ·refine h.mp.kp k2 ?_
  rintro (e | ⟨a, ha, e⟩)
  ·exact n1 e.symm
  ·obtain ⟨_, cs, fr, hb⟩ := row_addr h.rb ha
   exact h.mp.ne hb e.symm
 ·intro x hx
  have hin : x.v.In w := by
   rcases List.mem_append.1 hx with hx | hx
   ·exact h.hb x hx
   ·rw [List.mem_singleton.1 hx]; exact hu
  exact hin.kb k2 (fun j hj e => (hlt j (.inl ⟨x, hx, .inl hj⟩)).2.1 (hS j e)) (fun j hj e => (hlt j (.inl ⟨x, hx, .inr hj⟩)).2.1 (hS j e))
 ·exact fun x hx => ⟨(h.hw x hx).1.kb k2 (fun j hj e => (hlt j (.inr ⟨x, hx, hj⟩)).2.1 (hS j e)), (h.hw x hx).2⟩
 ·intro j hj hf
  have := hlt j hj
  rcases hF j hf with h1 | h1
  ·exact this.2.1 h1
  ·omega
 ·rintro j (hj | hj)
  ·rcases hF j hj with h1 | h1
   ·exact h.g j (.inl h1)
   ·have := h.lt (.inl (.inl rfl) : v.F p p ∨ v.C p); have := h.g p (.inl (.inl rfl)); omega
  ·exact (hlt j hj).2.2
theorem RV.In.addW (h : v.In s p w) {x : NW} (hr : Reads w w.heap.size 6 x.A x.n (ents x.w.card) ∧ x.n ≤ x.c) (hn : ∀ k, blk x.A x.n k → ¬ v.F p k ∧ 8 ≤ k) {A' : Option Addr} {c' : Nat} {w1 : World}
  (ho : w1.ownsRow 0 126 13 (.slice A' (v.ws.length + 1) c') (v.ws.length + 1) (v.ws.flatMap NW.cells ++ x.cells)) (hg : w.grownBy w1 (Value.slice v.B v.ws.length v.cb).ownBlock) (hl : A' = v.B ∨ ∀ q, A' = some q → w.heap.size ≤ q.block) :
  ({ v with B := A', cb := c', ws := v.ws ++ [x] } : RV).In s p (w1.setCell ⟨p, 3, none⟩ (.slice A' (v.ws.length + 1) c')) ∧
   Kp (fun k => k = p ∨ ∃ a, v.B = some a ∧ a.block = k) w (w1.setCell ⟨p, 3, none⟩ (.slice A' (v.ws.length + 1) c')) ∧
   (∀ k, ({ v with B := A', cb := c', ws := v.ws ++ [x] } : RV).F p k → v.F p k ∨ w.heap.size ≤ k) ∧ (∀ k, ({ v with B := A', cb := c', ws := v.ws ++ [x] } : RV).C k → v.C k ∨ blk x.A x.n k) := by
 obtain ⟨n1, n2, n3, n4⟩ := h.ne_p
 have k1 := kp_grown_row hg
 have k2 : Kp (fun k => k = p ∨ ∃ a, v.B = some a ∧ a.block = k) w (w1.setCell ⟨p, 3, none⟩ (.slice A' (v.ws.length + 1) c')) := (k1.mono fun x e => .inr e).set (p := ⟨p, 3, none⟩) (fun _ => .inl rfl) _
 have hS : ∀ j, (j = p ∨ ∃ a, v.B = some a ∧ a.block = j) → v.F p j := by
  rintro j (rfl | e)
  ·exact .inl rfl
  ·exact .inr (.inr (.inr (.inl e)))
 have hF : ∀ k, ({ v with B := A', cb := c', ws := v.ws ++ [x] } : RV).F p k → v.F p k ∨ w.heap.size ≤ k := by
  rintro k (e | e | e | ⟨a, ha, e⟩ | e)
  ·exact .inl (.inl e)
  ·exact .inl (.inr (.inl e))
  ·exact .inl (.inr (.inr (.inl e)))
  ·rcases hl with rfl | hl
   ·exact .inl (.inr (.inr (.inr (.inl ⟨a, ha, e⟩))))
   ·exact .inr (e ▸ hl a ha)
  ·exact .inl (.inr (.inr (.inr (.inr e))))
 have hC : ∀ k, ({ v with B := A', cb := c', ws := v.ws ++ [x] } : RV).C k → v.C k ∨ blk x.A x.n k := by
  rintro k (hk | ⟨y, hy, hk⟩)
  ·exact .inl (.inl hk)
  ·rcases List.mem_append.1 hy with hy | hy
   ·exact .inl (.inr ⟨y, hy, hk⟩)
   ·rw [List.mem_singleton.1 hy] at hk; exact .inr hk
 have hlt : ∀ k, ({ v with B := A', cb := c', ws := v.ws ++ [x] } : RV).C k → k < w.heap.size ∧ ¬ v.F p k ∧ 8 ≤ k := by
  intro k hk
  rcases hC k hk with h1 | h1
  ·exact ⟨h.lt (.inr h1), h.sep k h1, h.g k (.inr h1)⟩
  ·exact ⟨hr.1.blk_lt h1, hn k h1⟩
 have hne : ∀ j, (∃ a, v.B = some a ∧ a.block = j) → ∀ {B : Option Addr} {e n c sz : Nat} {xs : List Value}, w.ownsRow 0 e sz (.slice B n c) n xs → e ≠ 126 → ∀ a, B = some a → a.block ≠ j := by
  rintro j ⟨a, ha, rfl⟩ B e n c sz xs hB he a' ha' e'
  obtain ⟨_, cs, fr, hb⟩ := row_addr h.rw ha
  obtain ⟨_, cs', fr', hb'⟩ := row_addr hB ha'
  rw [e', hb] at hb'
  simp only [Option.some.injEq, Obj.cells.injEq] at hb'
  exact he hb'.2.1.symm
 refine ⟨⟨?_, ?_, ?_, ?_, ?_, ?_, ?_, ?_, ?_⟩, k2, hF, hC⟩
 ·have := (h.room.kp k1 fun ⟨a, ha, e⟩ => n3 a ha e).set 3 (.slice A' (v.ws.length + 1) c')
  have e : ({ v with B := A', cb := c', ws := v.ws ++ [x] } : RV).cells s = (v.cells s).setIfInBounds 3 (.slice A' (v.ws.length + 1) c') := by simp [RV.cells]
  rw [e]; exact this
 ·exact own_kp h.rb k2 fun j hj e => by
   obtain ⟨a, ha, hk⟩ := ownb hj
   rcases e with e | e
   ·exact n2 a ha (hk.trans e)
   ·exact hne j e h.rb (by omega) a ha hk
 ·show World.ownsRow _ 0 126 13 (.slice A' (v.ws ++ [x]).length c') (v.ws ++ [x]).length ((v.ws ++ [x]).flatMap NW.cells)
  rw [List.length_append, List.flatMap_append, List.length_singleton, List.flatMap_cons, List.flatMap_nil, List.append_nil]
  refine row_far ho ?_ _
  intro k hk e
  obtain ⟨a, ha, hb⟩ := ownb hk
  have e' : a.block = p := hb.trans e
  rcases hl with rfl | hl
  ·exact n3 a ha e'
  ·have := hl a ha; have := h.room.lt; omega
 ·exact own_kp h.rd k2 fun j hj e => by
   obtain ⟨a, ha, hk⟩ := ownb hj
   rcases e with e | e
   ·exact n4 a ha (hk.trans e)
   ·exact hne j e h.rd (by omega) a ha hk
 ·refine h.mp.kp k2 ?_
  rintro (e | ⟨a, ha, e⟩)
  ·exact n1 e.symm
  ·obtain ⟨_, cs, fr, hb⟩ := row_addr h.rw ha
   exact h.mp.ne hb e.symm
 ·exact fun y hy => (h.hb y hy).kb k2 (fun j hj e => (hlt j (.inl ⟨y, hy, .inl hj⟩)).2.1 (hS j e)) (fun j hj e => (hlt j (.inl ⟨y, hy, .inr hj⟩)).2.1 (hS j e))
 ·intro y hy
  have hin : Reads w w.heap.size 6 y.A y.n (ents y.w.card) ∧ y.n ≤ y.c := by
   rcases List.mem_append.1 hy with hy | hy
   ·exact h.hw y hy
   ·rw [List.mem_singleton.1 hy]; exact hr
  exact ⟨hin.1.kb k2 (fun j hj e => (hlt j (.inr ⟨y, hy, hj⟩)).2.1 (hS j e)), hin.2⟩
 ·intro j hj hf
  have := hlt j hj
  rcases hF j hf with h1 | h1
  ·exact this.2.1 h1
  ·omega
 ·rintro j (hj | hj)
  ·rcases hF j hj with h1 | h1
   ·exact h.g j (.inl h1)
   ·have := h.lt (.inl (.inl rfl) : v.F p p ∨ v.C p); have := h.g p (.inl (.inl rfl)); omega
  ·exact (hlt j hj).2.2
theorem RV.In.addD (h : v.In s p w) (t : List UInt8) {A' : Option Addr} {c' : Nat} {w1 : World}
  (ho : w1.ownsRow 0 9 1 (.slice A' (v.day.length + 1) c') (v.day.length + 1) (strL v.day ++ [.string (mkB t)])) (hg : w.grownBy w1 (Value.slice v.E v.day.length v.ce).ownBlock) (hl : A' = v.E ∨ ∀ q, A' = some q → w.heap.size ≤ q.block) :
  ({ v with E := A', ce := c', day := v.day ++ [t] } : RV).In s p (w1.setCell ⟨p, 8, none⟩ (.slice A' (v.day.length + 1) c')) ∧
   Kp (fun k => k = p ∨ ∃ a, v.E = some a ∧ a.block = k) w (w1.setCell ⟨p, 8, none⟩ (.slice A' (v.day.length + 1) c')) ∧
   (∀ k, ({ v with E := A', ce := c', day := v.day ++ [t] } : RV).F p k → v.F p k ∨ w.heap.size ≤ k) := by
 obtain ⟨n1, n2, n3, n4⟩ := h.ne_p
 have k1 := kp_grown_row hg
 have k2 : Kp (fun k => k = p ∨ ∃ a, v.E = some a ∧ a.block = k) w (w1.setCell ⟨p, 8, none⟩ (.slice A' (v.day.length + 1) c')) := (k1.mono fun x e => .inr e).set (p := ⟨p, 8, none⟩) (fun _ => .inl rfl) _
 have hS : ∀ j, (j = p ∨ ∃ a, v.E = some a ∧ a.block = j) → v.F p j := by
  rintro j (rfl | e)
  ·exact .inl rfl
  ·exact .inr (.inr (.inr (.inr e)))
 have hF : ∀ k, ({ v with E := A', ce := c', day := v.day ++ [t] } : RV).F p k → v.F p k ∨ w.heap.size ≤ k := by
  rintro k (e | e | e | e | ⟨a, ha, e⟩)
  ·exact .inl (.inl e)
  ·exact .inl (.inr (.inl e))
  ·exact .inl (.inr (.inr (.inl e)))
  ·exact .inl (.inr (.inr (.inr (.inl e))))
  ·rcases hl with rfl | hl
   ·exact .inl (.inr (.inr (.inr (.inr ⟨a, ha, e⟩))))
   ·exact .inr (e ▸ hl a ha)
 have hlt : ∀ k, v.C k → k < w.heap.size ∧ ¬ v.F p k ∧ 8 ≤ k := fun k h1 => ⟨h.lt (.inr h1), h.sep k h1, h.g k (.inr h1)⟩
 have hne : ∀ j, (∃ a, v.E = some a ∧ a.block = j) → ∀ {B : Option Addr} {e n c sz : Nat} {xs : List Value}, w.ownsRow 0 e sz (.slice B n c) n xs → e ≠ 9 → ∀ a, B = some a → a.block ≠ j := by
  rintro j ⟨a, ha, rfl⟩ B e n c sz xs hB he a' ha' e'
  obtain ⟨_, cs, fr, hb⟩ := row_addr h.rd ha
  obtain ⟨_, cs', fr', hb'⟩ := row_addr hB ha'
  rw [e', hb] at hb'
  simp only [Option.some.injEq, Obj.cells.injEq] at hb'
  exact he hb'.2.1.symm
 refine ⟨⟨?_, ?_, ?_, ?_, ?_, ?_, ?_, ?_, ?_⟩, k2, hF⟩
 ·have := (h.room.kp k1 fun ⟨a, ha, e⟩ => n4 a ha e).set 8 (.slice A' (v.day.length + 1) c')
  have e : ({ v with E := A', ce := c', day := v.day ++ [t] } : RV).cells s = (v.cells s).setIfInBounds 8 (.slice A' (v.day.length + 1) c') := by simp [RV.cells]
  rw [e]; exact this
 ·exact own_kp h.rb k2 fun j hj e => by
   obtain ⟨a, ha, hk⟩ := ownb hj
   rcases e with e | e
   ·exact n2 a ha (hk.trans e)
   ·exact hne j e h.rb (by omega) a ha hk
 ·exact own_kp h.rw k2 fun j hj e => by
   obtain ⟨a, ha, hk⟩ := ownb hj
   rcases e with e | e
   ·exact n3 a ha (hk.trans e)
   ·exact hne j e h.rw (by omega) a ha hk
 ·show World.ownsRow _ 0 9 1 (.slice A' (v.day ++ [t]).length c') (v.day ++ [t]).length (strL (v.day ++ [t]))
  have e : strL (v.day ++ [t]) = strL v.day ++ [.string (mkB t)] := by simp [strL]
  rw [List.length_append, List.length_singleton, e]
  refine row_far ho ?_ _
  intro k hk e
  obtain ⟨a, ha, hb⟩ := ownb hk
  have e' : a.block = p := hb.trans e
  rcases hl with rfl | hl
  ·exact n4 a ha e'
  ·have := hl a ha; have := h.room.lt; omega
 ·refine h.mp.kp k2 ?_
  rintro (e | ⟨a, ha, e⟩)
  ·exact n1 e.symm
  ·obtain ⟨_, cs, fr, hb⟩ := row_addr h.rd ha
   exact h.mp.ne hb e.symm
 ·exact fun y hy => (h.hb y hy).kb k2 (fun j hj e => (hlt j (.inl ⟨y, hy, .inl hj⟩)).2.1 (hS j e)) (fun j hj e => (hlt j (.inl ⟨y, hy, .inr hj⟩)).2.1 (hS j e))
 ·exact fun y hy => ⟨(h.hw y hy).1.kb k2 (fun j hj e => (hlt j (.inr ⟨y, hy, hj⟩)).2.1 (hS j e)), (h.hw y hy).2⟩
 ·intro j hj hf
  have := hlt j hj
  rcases hF j hf with h1 | h1
  ·exact this.2.1 h1
  ·omega
 ·rintro j (hj | hj)
  ·rcases hF j hj with h1 | h1
   ·exact h.g j (.inl h1)
   ·have := h.lt (.inl (.inl rfl) : v.F p p ∨ v.C p); have := h.g p (.inl (.inl rfl)); omega
  ·exact (hlt j hj).2.2
theorem RV.In.addN (h : v.In s p w) {n : List UInt8} {w1 : World} (hm : UsedIn w1 v.M (v.used ++ [n])) (hg : w.grownBy w1 (some v.M)) :
  ({ v with used := v.used ++ [n] } : RV).In s p w1 ∧ Kp (· = v.M) w w1 := by
 obtain ⟨n1, n2, n3, n4⟩ := h.ne_p
 have k := kp_of_grown hg
 have hF : v.F p v.M := .inr (.inl rfl)
 have hc : ∀ j, v.C j → ¬ j = v.M := fun j hj e => h.sep j hj (by rw [e]; exact hF)
 refine ⟨⟨h.room.kp k n1, ?_, ?_, ?_, hm, ?_, ?_, h.sep, h.g⟩, k⟩
 ·exact own_kp h.rb k fun b hb e => by
   obtain ⟨a, ha, hk⟩ := ownb hb
   obtain ⟨_, cs, fr, hb⟩ := row_addr h.rb ha
   exact h.mp.ne hb (by rw [hk]; exact e.symm)
 ·exact own_kp h.rw k fun b hb e => by
   obtain ⟨a, ha, hk⟩ := ownb hb
   obtain ⟨_, cs, fr, hb⟩ := row_addr h.rw ha
   exact h.mp.ne hb (by rw [hk]; exact e.symm)
 ·exact own_kp h.rd k fun b hb e => by
   obtain ⟨a, ha, hk⟩ := ownb hb
   obtain ⟨_, cs, fr, hb⟩ := row_addr h.rd ha
   exact h.mp.ne hb (by rw [hk]; exact e.symm)
 ·exact fun b hb => (h.hb b hb).kb k (fun j hj => hc j (.inl ⟨b, hb, .inl hj⟩)) (fun j hj => hc j (.inl ⟨b, hb, .inr hj⟩))
 ·exact fun x hx => ⟨(h.hw x hx).1.kb k (fun j hj => hc j (.inr ⟨x, hx, hj⟩)), (h.hw x hx).2⟩
end
end Go.Proofs.YtihhclhpjgeniaaGreatDoor
