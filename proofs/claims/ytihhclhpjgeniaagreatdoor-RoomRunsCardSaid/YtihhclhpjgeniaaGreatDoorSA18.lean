/- Merged texts: Re Kb -/
import Derived.Test.YtihhclhpjgeniaaGreatDoorSA9
import Derived.Test.YtihhclhpjgeniaaGreatDoorSA17
import Derived.Maps.OwnSet
import Derived.Maps.Views
namespace Go.Proofs.YtihhclhpjgeniaaGreatDoor
def dayT (l : List (List UInt8)) : List UInt8 := l.flatMap fun t => t ++ [10]
theorem dayT_snoc (l : List (List UInt8)) (t : List UInt8) : dayT (l ++ [t]) = dayT l ++ (t ++ [10]) := by simp [dayT]
end Go.Proofs.YtihhclhpjgeniaaGreatDoor
namespace Go.Proofs.YtihhclhpjgeniaaGreatDoor
open Go.RowKit Go.Sort
theorem keyS (n : List UInt8) (h : n.length ≤ maxLen) : keyOf Tryz.prog 9 (.string (mkB n)) = some (.string n) := by
  have := Go.WideMaps.keyOf_string_mk (P := Tryz.prog) Tryz.underlying9 (s := mkB n) h
  exact this
def UsedIn (w : World) (b : Nat) (l : List (List UInt8)) : Prop :=
  ∃ D : DataW Unit, w.ownsMap Tryz.prog 9 (plainElem Tryz.prog 4) b l.length D ∧ ∀ n, D.atKey (.string n) (.lit (.bool false)) = .lit (.bool (l.contains n))
theorem UsedIn.lt {w : World} {b : Nat} {l : List (List UInt8)} (h : UsedIn w b l) : b < w.heap.size := by
  obtain ⟨D, h, _⟩ := h; exact h.lt
theorem UsedIn.kp {S : Nat → Prop} {w w' : World} {b : Nat} {l : List (List UInt8)} (h : UsedIn w b l) (k : Kp S w w') (hb : ¬ S b) : UsedIn w' b l := by
  obtain ⟨D, ⟨es, clock, h1, h2⟩, h3⟩ := h
  exact ⟨D, ⟨es, clock, (k.block b (Array.getElem?_eq_some_iff.1 h1).1 hb).trans h1, h2⟩, h3⟩
theorem UsedIn.ne {w : World} {b : Nat} {l : List (List UInt8)} (h : UsedIn w b l) {q : Nat} {cs : Array Value} {t : TypeId} {fr : Nat × Nat} (hq : w.heap[q]? = some (.cells cs t fr)) : b ≠ q := by
  obtain ⟨D, ⟨es, clock, h1, _⟩, _⟩ := h
  intro e; subst e
  rw [h1] at hq; cases hq
theorem UsedIn.new (w : World) : UsedIn (w.alloc (.map #[] 0)) w.heap.size [] :=
  ⟨.map [], World.ownsMap_made w _ _ _, fun n => by simp [DataW.atKey]⟩
structure NB where
  name : List UInt8
  v : BV
structure NW where
  w : Wg
  A : Option Addr
  n : Nat
  c : Nat
def NB.cells (b : NB) : List Value := [.string (mkB b.name), .slice b.v.A b.v.n b.v.c, .slice b.v.B b.v.m b.v.d]
def wgL (w : Wg) : List Value := [.string (mkB w.name), .string (mkB w.bun), .int .i64 w.hairs, .int .i64 w.done, .int .i64 w.shed, .int .i64 w.len, .int .i64 w.lvl, .int .i64 w.tone, .int .i64 w.bl, .string (mkB w.plait), .int .i64 w.state, .int .i64 w.price]
def NW.cells (x : NW) : List Value := wgL x.w ++ [.slice x.A x.n x.c]
theorem nb_len (b : NB) : b.cells.length = 3 := rfl
theorem nw_len (b : NW) : b.cells.length = 13 := rfl
def strL (l : List (List UInt8)) : List Value := l.map fun t => .string (mkB t)
theorem strL_len (l : List (List UInt8)) : (strL l).length = l.length := by simp [strL]
structure RV where
  A : Option Addr
  ca : Nat
  B : Option Addr
  cb : Nat
  E : Option Addr
  ce : Nat
  M : Nat
  bs : List NB
  ws : List NW
  used : List (List UInt8)
  bought : Int
  lost : Int
  cash : Int
  day : List (List UInt8)
def RV.rm (v : RV) : Rm := ⟨v.bs.map fun b => (b.name, b.v.h), v.ws.map (·.w), v.used, v.bought, v.lost, v.cash, v.day⟩
def RV.cells (v : RV) (s : Int) : Array Value :=
  #[.int .i32 s, .int .u32 0, .slice v.A v.bs.length v.ca, .slice v.B v.ws.length v.cb, .map (some v.M), .int .i64 v.bought, .int .i64 v.lost, .int .i64 v.cash, .slice v.E v.day.length v.ce]
def RV.F (v : RV) (p : Nat) : Nat → Prop := fun k => k = p ∨ k = v.M ∨ (∃ a, v.A = some a ∧ a.block = k) ∨ (∃ a, v.B = some a ∧ a.block = k) ∨ ∃ a, v.E = some a ∧ a.block = k
def RV.C (v : RV) : Nat → Prop := fun k => (∃ b ∈ v.bs, blk b.v.A b.v.n k ∨ blk b.v.B b.v.m k) ∨ ∃ x ∈ v.ws, blk x.A x.n k
structure RV.In (v : RV) (s : Int) (p : Nat) (w : World) : Prop where
  room : At w p (v.cells s) 109
  rb : w.ownsRow 0 130 3 (.slice v.A v.bs.length v.ca) v.bs.length (v.bs.flatMap NB.cells)
  rw : w.ownsRow 0 126 13 (.slice v.B v.ws.length v.cb) v.ws.length (v.ws.flatMap NW.cells)
  rd : w.ownsRow 0 9 1 (.slice v.E v.day.length v.ce) v.day.length (strL v.day)
  mp : UsedIn w v.M v.used
  hb : ∀ b ∈ v.bs, b.v.In w
  hw : ∀ x ∈ v.ws, Reads w w.heap.size 6 x.A x.n (ents x.w.card) ∧ x.n ≤ x.c
  sep : ∀ k, v.C k → ¬ v.F p k
  g : ∀ k, v.F p k ∨ v.C k → 8 ≤ k
theorem row_addr {w : World} {e sz n : Nat} {A : Option Addr} {c : Nat} {xs : List Value} (h : w.ownsRow 0 e sz (.slice A n c) n xs) {a : Addr} (hA : A = some a) : a.block < w.heap.size ∧ ∃ cs fr, w.heap[a.block]? = some (.cells cs e fr) := by
  subst hA
  rcases h.2 with ⟨h', _⟩ | ⟨g', cap', cur, h', _, hg, _⟩
  · simp at h'
  · simp only [Value.slice.injEq, Option.some.injEq] at h'
    obtain ⟨rfl, _⟩ := h'
    exact ⟨(Array.getElem?_eq_some_iff.1 hg).1, _, _, hg⟩
theorem RV.In.lt {v : RV} {s : Int} {p : Nat} {w : World} (h : v.In s p w) {k : Nat} (hk : v.F p k ∨ v.C k) : k < w.heap.size := by
  rcases hk with hk | hk
  · rcases hk with rfl | rfl | ⟨a, ha, rfl⟩ | ⟨a, ha, rfl⟩ | ⟨a, ha, rfl⟩
    · exact h.room.lt
    · exact h.mp.lt
    · exact (row_addr h.rb ha).1
    · exact (row_addr h.rw ha).1
    · exact (row_addr h.rd ha).1
  · rcases hk with ⟨b, hb, hk | hk⟩ | ⟨x, hx, hk⟩
    · exact (h.hb b hb).r.blk_lt hk
    · exact (h.hb b hb).s.blk_lt hk
    · exact (h.hw x hx).1.blk_lt hk
theorem RV.In.kp {S : Nat → Prop} {v : RV} {s : Int} {p : Nat} {w w' : World} (h : v.In s p w) (k : Kp S w w') (hS : ∀ b, v.F p b ∨ v.C b → ¬ S b) : v.In s p w' where
  room := h.room.kp k (hS p (.inl (.inl rfl)))
  rb := own_kp h.rb k fun b hb => hS b (.inl (.inr (.inr (.inl (by cases hA : v.A with | none => rw [hA] at hb; simp [Value.ownBlock] at hb | some a => rw [hA] at hb; exact ⟨a, rfl, by simpa [Value.ownBlock] using hb⟩)))))
  rw := own_kp h.rw k fun b hb => hS b (.inl (.inr (.inr (.inr (.inl (by cases hA : v.B with | none => rw [hA] at hb; simp [Value.ownBlock] at hb | some a => rw [hA] at hb; exact ⟨a, rfl, by simpa [Value.ownBlock] using hb⟩))))))
  rd := own_kp h.rd k fun b hb => hS b (.inl (.inr (.inr (.inr (.inr (by cases hA : v.E with | none => rw [hA] at hb; simp [Value.ownBlock] at hb | some a => rw [hA] at hb; exact ⟨a, rfl, by simpa [Value.ownBlock] using hb⟩))))))
  mp := h.mp.kp k (hS v.M (.inl (.inr (.inl rfl))))
  hb := fun b hb => (h.hb b hb).kb k (fun j hj => hS j (.inr (.inl ⟨b, hb, .inl hj⟩))) (fun j hj => hS j (.inr (.inl ⟨b, hb, .inr hj⟩)))
  hw := fun x hx => ⟨(h.hw x hx).1.kb k (fun j hj => hS j (.inr (.inr ⟨x, hx, hj⟩))), (h.hw x hx).2⟩
  sep := h.sep
  g := h.g
theorem RV.In.below {v : RV} {s : Int} {p : Nat} {w w' : World} (h : v.In s p w) (hb : Below w.heap.size w w') : v.In s p w' := h.kp (Kp.of (S := fun _ => False) hb) fun _ _ e => e
structure Rs (p : Nat) (v : RV) (w : World) (v' : RV) (w' : World) : Prop where
  kp : Kp (v.F p) w w'
  f : ∀ k, v'.F p k → v.F p k ∨ w.heap.size ≤ k
  c : ∀ k, v'.C k → v.C k ∨ w.heap.size ≤ k
theorem Rs.below {p : Nat} {v : RV} {w w' : World} (h : Below w.heap.size w w') : Rs p v w v w' := ⟨Kp.of h, fun _ h => .inl h, fun _ h => .inl h⟩
theorem Rs.trans {p : Nat} {v v1 v2 : RV} {w w1 w2 : World} (h : Rs p v w v1 w1) (k : Rs p v1 w1 v2 w2) : Rs p v w v2 w2 := by
  have hz := h.kp.size
  refine ⟨h.kp.trans k.kp fun x hx hs => ?_, fun x hx => ?_, fun x hx => ?_⟩
  · rcases h.f x hs with h1 | h1
    · exact h1
    · omega
  · rcases k.f x hx with h1 | h1
    · exact h.f x h1
    · exact .inr (by omega)
  · rcases k.c x hx with h1 | h1
    · exact h.c x h1
    · exact .inr (by omega)
theorem Rs.grow {p : Nat} {v v1 : RV} {w w1 w2 : World} (h : Rs p v w v1 w1) (hb : Below w1.heap.size w1 w2) : Rs p v w v1 w2 := h.trans (Rs.below hb)
section
variable {v : RV} {s : Int} {p : Nat} {w : World}
theorem RV.In.ne_b (h : v.In s p w) {g : Nat} (hg : v.A = some ⟨g, 0, none⟩) : g ≠ p ∧ g ≠ v.M ∧ (∀ a, v.B = some a → a.block ≠ g) ∧ (∀ a, v.E = some a → a.block ≠ g) := by
  obtain ⟨_, cs, fr, hb⟩ := row_addr h.rb hg
  dsimp only at hb
  refine ⟨fun e => ?_, fun e => (h.mp.ne hb) e.symm, fun a ha e => ?_, fun a ha e => ?_⟩
  · subst e
    rw [show w.heap[g]? = _ from h.room] at hb
    simp at hb
  · obtain ⟨_, cs', fr', hb'⟩ := row_addr h.rw ha
    rw [e, hb] at hb'; simp at hb'
  · obtain ⟨_, cs', fr', hb'⟩ := row_addr h.rd ha
    rw [e, hb] at hb'; simp at hb'
theorem RV.In.ne_w (h : v.In s p w) {g : Nat} (hg : v.B = some ⟨g, 0, none⟩) : g ≠ p ∧ g ≠ v.M ∧ (∀ a, v.A = some a → a.block ≠ g) ∧ (∀ a, v.E = some a → a.block ≠ g) := by
  obtain ⟨_, cs, fr, hb⟩ := row_addr h.rw hg
  dsimp only at hb
  refine ⟨fun e => ?_, fun e => (h.mp.ne hb) e.symm, fun a ha e => ?_, fun a ha e => ?_⟩
  · subst e
    rw [show w.heap[g]? = _ from h.room] at hb
    simp at hb
  · obtain ⟨_, cs', fr', hb'⟩ := row_addr h.rb ha
    rw [e, hb] at hb'; simp at hb'
  · obtain ⟨_, cs', fr', hb'⟩ := row_addr h.rd ha
    rw [e, hb] at hb'; simp at hb'
theorem RV.In.ne_p (h : v.In s p w) : p ≠ v.M ∧ (∀ a, v.A = some a → a.block ≠ p) ∧ (∀ a, v.B = some a → a.block ≠ p) ∧ (∀ a, v.E = some a → a.block ≠ p) := by
  have hp : w.heap[p]? = some (.cells (v.cells s) 109 (0, 0)) := h.room
  refine ⟨fun e => (h.mp.ne hp) e.symm, fun a ha e => ?_, fun a ha e => ?_, fun a ha e => ?_⟩
  · obtain ⟨_, cs', fr', hb'⟩ := row_addr h.rb ha
    rw [e, hp] at hb'; simp at hb'
  · obtain ⟨_, cs', fr', hb'⟩ := row_addr h.rw ha
    rw [e, hp] at hb'; simp at hb'
  · obtain ⟨_, cs', fr', hb'⟩ := row_addr h.rd ha
    rw [e, hp] at hb'; simp at hb'
theorem ownb {A : Option Addr} {n c k : Nat} (h : (Value.slice A n c).ownBlock = some k) : ∃ a, A = some a ∧ a.block = k := by
  cases A with
  | none => simp [Value.ownBlock] at h
  | some a => exact ⟨a, rfl, by simpa [Value.ownBlock] using h⟩
theorem RV.In.setN (h : v.In s p w) {v' : RV} {s' : Int} (i : Nat) (u : Value) (e : v'.cells s' = (v.cells s).setIfInBounds i u) (e1 : v'.A = v.A ∧ v'.B = v.B ∧ v'.E = v.E ∧ v'.M = v.M) (e2 : v'.bs = v.bs ∧ v'.ws = v.ws ∧ v'.used = v.used ∧ v'.day = v.day)
    (e3 : v'.ca = v.ca ∧ v'.cb = v.cb ∧ v'.ce = v.ce) : v'.In s' p (w.setCell ⟨p, i, none⟩ u) ∧ Rs p v w v' (w.setCell ⟨p, i, none⟩ u) := by
  obtain ⟨a1, a2, a3, a4⟩ := e1
  obtain ⟨b1, b2, b3, b4⟩ := e2
  obtain ⟨c1, c2, c3⟩ := e3
  have hF : v'.F p = v.F p := by unfold RV.F; rw [a1, a2, a3, a4]
  have hC : v'.C = v.C := by unfold RV.C; rw [b1, b2]
  obtain ⟨n1, n2, n3, n4⟩ := h.ne_p
  have k : Kp (fun j => j = p) w (w.setCell ⟨p, i, none⟩ u) := (Kp.refl (fun j => j = p) w).set (p := ⟨p, i, none⟩) (fun _ => rfl) u
  have hc : ∀ j, v.C j → ¬ j = p := fun j hj e => h.sep j hj (.inl e)
  refine ⟨⟨?_, ?_, ?_, ?_, ?_, ?_, ?_, ?_, ?_⟩, ⟨k.mono fun x e => .inl e, fun j hj => .inl (hF ▸ hj), fun j hj => .inl (hC ▸ hj)⟩⟩
  · rw [e]; exact h.room.set i u
  · rw [a1, b1, c1]; exact own_kp h.rb k fun b hb e => by obtain ⟨a, ha, hk⟩ := ownb hb; exact n2 a ha (hk.trans e)
  · rw [a2, b2, c2]; exact own_kp h.rw k fun b hb e => by obtain ⟨a, ha, hk⟩ := ownb hb; exact n3 a ha (hk.trans e)
  · rw [a3, b4, c3]; exact own_kp h.rd k fun b hb e => by obtain ⟨a, ha, hk⟩ := ownb hb; exact n4 a ha (hk.trans e)
  · rw [a4, b3]; exact h.mp.kp k fun e => n1 e.symm
  · rw [b1]; exact fun b hb => (h.hb b hb).kb k (fun j hj => hc j (.inl ⟨b, hb, .inl hj⟩)) (fun j hj => hc j (.inl ⟨b, hb, .inr hj⟩))
  · rw [b2]; exact fun x hx => ⟨(h.hw x hx).1.kb k (fun j hj => hc j (.inr ⟨x, hx, hj⟩)), (h.hw x hx).2⟩
  · rw [hC, hF]; exact h.sep
  · rw [hC, hF]; exact h.g
end
end Go.Proofs.YtihhclhpjgeniaaGreatDoor
