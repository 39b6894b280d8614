/- Merged texts: Gy Hk -/
import Derived.Test.YtihhclhpjgeniaaGreatDoorSB19
import Derived.Test.YtihhclhpjgeniaaGreatDoorSB25
import Derived.Test.YtihhclhpjgeniaaGreatDoorSB27
import Derived.Test.YtihhclhpjgeniaaGreatDoorSB28
namespace Go.Proofs.YtihhclhpjgeniaaGreatDoor
open Go.RowKit Go.Sort
theorem pcs_many (b : UInt8) (s : List UInt8) : (pcs b s).length ≤ s.length + 1 := by
 induction s with
 | nil => simp [pcs]
 | cons c s ih =>
  by_cases h : c = b
  ·subst h; rw [pcs_same]; simp; omega
  ·obtain ⟨w, l, hs⟩ : ∃ w l, pcs b s = w :: l := by
    cases hc : pcs b s with
    | nil => exact absurd hc (pcs_ne b s)
    | cons w l => exact ⟨w, l, rfl⟩
   rw [pcs_other h hs]
   rw [hs] at ih
   simp at ih ⊢; omega
abbrev oZ : Array Value := #[.int .i64 0, .string (ByteArray.mk #[]), .nilFunc, .slice none 0 0, .string (ByteArray.mk #[]), .slice none 0 0]
structure PWs (w0 : World) (ws : List (List UInt8)) (W : World) : Prop where
 k2 : At W w0.heap.size oZ 114
 wd : Reads W W.heap.size 1 (some ⟨w0.heap.size + 1, 0, none⟩) ws.length (strL ws)
 b : Below w0.heap.size w0 W
theorem PWs.below {w0 W W' : World} {ws : List (List UInt8)} (h : PWs w0 ws W) (hb : Below W.heap.size W W') : PWs w0 ws W' := ⟨h.k2.below hb, h.wd.on hb, below_trans' h.b hb⟩
theorem PWs.cell {w0 W : World} {ws : List (List UInt8)} (h : PWs w0 ws W) {k : Nat} {a : List UInt8} (hk : ws[k]? = some a) : W.cell? ⟨w0.heap.size + 1, k, none⟩ = some (.string (mkB a)) := by
 have hl := (List.getElem?_eq_some_iff.1 hk).1
 obtain ⟨ad, e, _, hc⟩ := h.wd.2 (by omega)
 injection e with e
 subst e
 have := hc k (.string (mkB a)) (by simp [strL, hk])
 rwa [Addr.add_lit, Nat.zero_add] at this
theorem PWs.kp {S : Nat → Prop} {w0 W W' : World} {ws : List (List UInt8)} (h : PWs w0 ws W) (k : Kp S W W') (hS : ∀ j, S j → w0.heap.size + 1 < j) : PWs w0 ws W' :=
 ⟨h.k2.kp k fun e => by have := hS _ e; omega, h.wd.kb k (by
  rintro b ⟨_, a, ha, rfl⟩ e
  injection ha with ha
  subst ha
  have := hS _ e
  simp at this), ⟨k.os.trans h.b.os, k.tape.trans h.b.tape, k.output.trans h.b.output, Nat.le_trans h.b.size k.size, fun b hb => (k.block b (Nat.lt_of_lt_of_le hb h.b.size) fun e => by have := hS _ e; omega).trans (h.b.block b hb)⟩⟩
theorem row_at {W : World} {N e n c q : Nat} {sz : Nat} {A : Option Addr} {xs : List Value} {cs : Array Value} {t : TypeId} (h : W.ownsRow N e sz (.slice A n c) n xs) (k : At W q cs t) (he : e ≠ t) {j : Nat} (hj : (Value.slice A n c).ownBlock = some j) : j ≠ q := by
 rintro rfl
 rcases h.2 with ⟨hv, _⟩ | ⟨g, cap, cur, hv, hb, hh, _⟩
 ·rw [hv] at hj; simp [Value.ownBlock] at hj
 ·rw [hv] at hj
  simp only [Value.ownBlock, Option.some.injEq] at hj
  subst hj
  have k' : W.heap[g]? = _ := k
  rw [hh] at k'
  simp only [Option.some.injEq, Obj.cells.injEq] at k'
  exact he k'.2.1
theorem row_row {W : World} {N e n c N' e' n' c' sz sz' : Nat} {A A' : Option Addr} {xs xs' : List Value} (h : W.ownsRow N e sz (.slice A n c) n xs) (h' : W.ownsRow N' e' sz' (.slice A' n' c') n' xs') (he : e ≠ e') {j : Nat} (hj : (Value.slice A n c).ownBlock = some j) (hj' : (Value.slice A' n' c').ownBlock = some j) : False := by
 rcases h'.2 with ⟨hv, _⟩ | ⟨g, cap, cur, hv, hb, hh, _⟩
 ·rw [hv] at hj'; simp [Value.ownBlock] at hj'
 ·rw [hv] at hj'
  simp only [Value.ownBlock, Option.some.injEq] at hj'
  subst hj'
  rcases h.2 with ⟨hv, _⟩ | ⟨g2, cap2, cur2, hv2, _, hh2, _⟩
  ·rw [hv] at hj; simp [Value.ownBlock] at hj
  ·rw [hv2] at hj
   simp only [Value.ownBlock, Option.some.injEq] at hj
   subst hj
   rw [hh2] at hh
   simp only [Option.some.injEq, Obj.cells.injEq] at hh
   exact he hh.2.1
structure PL (w0 : World) (ws : List (List UInt8)) (q N : Nat) (kd : Int) (fb : ByteArray) (g : Value) (st : List UInt8) (A : Option Addr) (n c : Nat) (B : Option Addr) (m d : Nat) (ns : List (List UInt8)) (ms : List Int) (W : World) : Prop where
 s : PWs w0 ws W
 k5 : At W q #[.int .i64 kd, .string fb, g] 112
 k7 : At W N #[.int .i64 kd, .string fb, g, .slice A n c, .string (mkB st), .slice B m d] 114
 rn : W.ownsRow N 9 1 (.slice A n c) n (strL ns)
 rm : W.ownsRow N 3 1 (.slice B m d) m (ints ms)
 l : w0.heap.size + 1 < N ∧ q < N
section
variable {w0 : World} {ws : List (List UInt8)} {q N : Nat} {kd : Int} {fb : ByteArray} {g : Value} {st : List UInt8} {A : Option Addr} {n c : Nat} {B : Option Addr} {m d : Nat} {ns : List (List UInt8)} {ms : List Int} {W W' : World}
theorem PL.below (h : PL w0 ws q N kd fb g st A n c B m d ns ms W) (hb : Below W.heap.size W W') : PL w0 ws q N kd fb g st A n c B m d ns ms W' :=
 ⟨h.s.below hb, h.k5.below hb, h.k7.below hb, row_on h.rn hb, row_on h.rm hb, h.l⟩
theorem PL.style (h : PL w0 ws q N kd fb g st A n c B m d ns ms W) (x : List UInt8) : PL w0 ws q N kd fb g x A n c B m d ns ms (W.setCell ⟨N, 4, none⟩ (.string (mkB x))) := by
 have k := (Kp.refl (fun j => j = N) W).set (p := ⟨N, 4, none⟩) (fun _ => rfl) (.string (mkB x))
 exact ⟨h.s.kp k fun j e => by rw [e]; exact h.l.1, h.k5.kp k fun e => by have := h.l.2; omega, h.k7.set 4 (.string (mkB x)), own_kp h.rn k fun b hb e => row_at h.rn h.k7 (by omega) hb e, own_kp h.rm k fun b hb e => row_at h.rm h.k7 (by omega) hb e, h.l⟩
theorem PL.name (h : PL w0 ws q N kd fb g st A n c B m d ns ms W) {x : List UInt8} {A' : Option Addr} {c' : Nat} {X : World} (ho : X.ownsRow N 9 1 (.slice A' (n + 1) c') (n + 1) (strL ns ++ [.string (mkB x)])) (hg : W.grownBy X (Value.slice A n c).ownBlock) :
  PL w0 ws q N kd fb g st A' (n + 1) c' B m d (ns ++ [x]) ms (X.setCell ⟨N, 3, none⟩ (.slice A' (n + 1) c')) := by
 have k1 : Kp (fun j => (Value.slice A n c).ownBlock = some j) W X := (Kp.refl _ W).grown hg fun k hk _ => hk
 have kN := h.k7.kp k1 fun e => row_at h.rn h.k7 (by omega) e rfl
 have k : Kp (fun j => j = N ∨ (Value.slice A n c).ownBlock = some j) W (X.setCell ⟨N, 3, none⟩ (.slice A' (n + 1) c')) := (k1.mono fun j e => .inr e).set (p := ⟨N, 3, none⟩) (fun _ => .inl rfl) _
 have hge : ∀ j, (Value.slice A n c).ownBlock = some j → N ≤ j := fun j hj => (h.rn.lt j hj).1
 refine ⟨h.s.kp k fun j e => ?_, h.k5.kp k fun e => ?_, kN.set 3 (.slice A' (n + 1) c'), ?_, own_kp h.rm k fun b hb e => ?_, h.l⟩
 ·rcases e with rfl | e
  ·exact h.l.1
  ·have := hge j e; have := h.l.1; omega
 ·rcases e with e | e
  ·have := h.l.2; omega
  ·have := hge q e; have := h.l.2; omega
 ·rw [show strL (ns ++ [x]) = strL ns ++ [.string (mkB x)] by simp [strL]]
  exact row_far ho (fun j hj => row_at ho kN (by omega) hj) _
 ·rcases e with e | e
  ·exact row_at h.rm h.k7 (by omega) hb e
  ·exact row_row h.rn h.rm (by omega) e hb
theorem PL.num (h : PL w0 ws q N kd fb g st A n c B m d ns ms W) {x : Int} {A' : Option Addr} {c' : Nat} {X : World} (ho : X.ownsRow N 3 1 (.slice A' (m + 1) c') (m + 1) (ints ms ++ [.int .i64 x])) (hg : W.grownBy X (Value.slice B m d).ownBlock) :
  PL w0 ws q N kd fb g st A n c A' (m + 1) c' ns (ms ++ [x]) (X.setCell ⟨N, 5, none⟩ (.slice A' (m + 1) c')) := by
 have k1 : Kp (fun j => (Value.slice B m d).ownBlock = some j) W X := (Kp.refl _ W).grown hg fun k hk _ => hk
 have kN := h.k7.kp k1 fun e => row_at h.rm h.k7 (by omega) e rfl
 have k : Kp (fun j => j = N ∨ (Value.slice B m d).ownBlock = some j) W (X.setCell ⟨N, 5, none⟩ (.slice A' (m + 1) c')) := (k1.mono fun j e => .inr e).set (p := ⟨N, 5, none⟩) (fun _ => .inl rfl) _
 have hge : ∀ j, (Value.slice B m d).ownBlock = some j → N ≤ j := fun j hj => (h.rm.lt j hj).1
 refine ⟨h.s.kp k fun j e => ?_, h.k5.kp k fun e => ?_, kN.set 5 (.slice A' (m + 1) c'), own_kp h.rn k fun b hb e => ?_, ?_, h.l⟩
 ·rcases e with rfl | e
  ·exact h.l.1
  ·have := hge j e; have := h.l.1; omega
 ·rcases e with e | e
  ·have := h.l.2; omega
  ·have := hge q e; have := h.l.2; omega
 ·rcases e with e | e
  ·exact row_at h.rn h.k7 (by omega) hb e
  ·exact row_row h.rm h.rn (by omega) e hb
 ·rw [show ints (ms ++ [x]) = ints ms ++ [.int .i64 x] by simp [ints]]
  exact row_far ho (fun j hj => row_at ho kN (by omega) hj) _
theorem PL.gn (h : PL w0 ws q N kd fb g st A n c B m d ns ms W) {X : World} (hg : W.grownBy X (Value.slice A n c).ownBlock) : At X N #[.int .i64 kd, .string fb, g, .slice A n c, .string (mkB st), .slice B m d] 114 :=
 h.k7.kp ((Kp.refl (fun j => (Value.slice A n c).ownBlock = some j) W).grown hg fun k hk _ => hk) fun e => row_at h.rn h.k7 (by omega) e rfl
theorem PL.gm (h : PL w0 ws q N kd fb g st A n c B m d ns ms W) {X : World} (hg : W.grownBy X (Value.slice B m d).ownBlock) : At X N #[.int .i64 kd, .string fb, g, .slice A n c, .string (mkB st), .slice B m d] 114 :=
 h.k7.kp ((Kp.refl (fun j => (Value.slice B m d).ownBlock = some j) W).grown hg fun k hk _ => hk) fun e => row_at h.rm h.k7 (by omega) e rfl
theorem PL.reads (h : PL w0 ws q N kd fb g st A n c B m d ns ms W) (a b c' d' e' f : Value) : Reads ((((((W.setCell ⟨w0.heap.size, 0, none⟩ a).setCell ⟨w0.heap.size, 1, none⟩ b).setCell ⟨w0.heap.size, 2, none⟩ c').setCell ⟨w0.heap.size, 3, none⟩ d').setCell ⟨w0.heap.size, 4, none⟩ e').setCell ⟨w0.heap.size, 5, none⟩ f) ((((((W.setCell ⟨w0.heap.size, 0, none⟩ a).setCell ⟨w0.heap.size, 1, none⟩ b).setCell ⟨w0.heap.size, 2, none⟩ c').setCell ⟨w0.heap.size, 3, none⟩ d').setCell ⟨w0.heap.size, 4, none⟩ e').setCell ⟨w0.heap.size, 5, none⟩ f).heap.size 1 A n (strL ns) ∧
  Reads ((((((W.setCell ⟨w0.heap.size, 0, none⟩ a).setCell ⟨w0.heap.size, 1, none⟩ b).setCell ⟨w0.heap.size, 2, none⟩ c').setCell ⟨w0.heap.size, 3, none⟩ d').setCell ⟨w0.heap.size, 4, none⟩ e').setCell ⟨w0.heap.size, 5, none⟩ f) ((((((W.setCell ⟨w0.heap.size, 0, none⟩ a).setCell ⟨w0.heap.size, 1, none⟩ b).setCell ⟨w0.heap.size, 2, none⟩ c').setCell ⟨w0.heap.size, 3, none⟩ d').setCell ⟨w0.heap.size, 4, none⟩ e').setCell ⟨w0.heap.size, 5, none⟩ f).heap.size 1 B m (ints ms) := by
 have k := ((((((Kp.refl (fun j => j = w0.heap.size) W).set (p := ⟨w0.heap.size, 0, none⟩) (fun _ => rfl) a).set (p := ⟨w0.heap.size, 1, none⟩) (fun _ => rfl) b).set (p := ⟨w0.heap.size, 2, none⟩) (fun _ => rfl) c').set (p := ⟨w0.heap.size, 3, none⟩) (fun _ => rfl) d').set (p := ⟨w0.heap.size, 4, none⟩) (fun _ => rfl) e').set (p := ⟨w0.heap.size, 5, none⟩) (fun _ => rfl) f
 exact ⟨(Reads.of_own h.rn).kb k fun b ⟨_, ad, ha, hb⟩ e => by have := (h.rn.lt b (by rw [ha, ← hb]; rfl)).1; have := h.l.1; omega, (Reads.of_own h.rm).kb k fun b ⟨_, ad, ha, hb⟩ e => by have := (h.rm.lt b (by rw [ha, ← hb]; rfl)).1; have := h.l.1; omega⟩
end
theorem info9 : (Tryz.prog.info? 9).map (fun i => (i.zero, i.size, i.bytes)) = some (some (.string ByteArray.empty), 1, 16) := by kernel_rfl
end Go.Proofs.YtihhclhpjgeniaaGreatDoor
namespace Go.Proofs.YtihhclhpjgeniaaGreatDoor
open Go.RowKit Go.Sort
section
variable {P : Program} {ops : Array Oper} {md : Region.Mode} {Q : Exit → Act → World → Prop} {S : World → Prop}
def pureO (o : Oper) : Bool := match o.op with | .move _ => true | .extract _ _ => true | _ => false
theorem pure_run {o : Oper} (hp : pureO o = true) (ev : Operand → Value) (P : Program) : (∃ u, ∀ w, (execOp ev o).run P w = .ok (.value u) w) ∨ (∃ h : Halt, ∀ w, (execOp ev o).run P w = .halt h w) := by
 obtain ⟨dst, op, ty, pos, after, guard⟩ := o
 unfold pureO at hp
 cases op with
 | move x => exact .inl ⟨ev x, fun w => rfl⟩
 | extract x i =>
  cases hv : ev x with
  | tuple vs =>
   cases hi : vs[i]? with
   | some u => exact .inl ⟨u, fun w => by simp [execOp, Instr.extract, hv, hi]⟩
   | none => exact .inr ⟨_, fun w => by simp [execOp, Instr.extract, hv, hi]; rfl⟩
  | _ => exact .inr ⟨_, fun w => by simp [execOp, Instr.extract, hv]; rfl⟩
 | _ => cases hp
theorem YieldsG.free {P : Program} {ops : Array Oper} {S : World → Prop} {o : Oper} {v : Value} {a : Act} (hp : pureO o = true) {w0 : World} (hw : S w0) (h : YieldsG P ops S o v a) : YieldsG P ops (fun _ => True) o v a := by
 rcases h with ⟨h1, h2⟩ | h
 ·refine .inl ⟨h1, fun w _ => ?_⟩
  have h3 := h2 w0 hw
  unfold Oper.quietAt at h3 ⊢
  rcases pure_run hp a.eval P with ⟨u, hu⟩ | ⟨e, he⟩
  ·rw [hu] at h3 ⊢
   exact ⟨rfl, h3.2⟩
  ·rw [he] at h3
   exact h3.elim
 ·exact .inr h
theorem canonG_free {P : Program} {ops : Array Oper} {S : World → Prop} {L : Act → Prop} {w0 : World} (hw : S w0) : ∀ (hs : List Nat) (a : Act), (∀ h ∈ hs, ∀ o, ops[h]? = some o → pureO o = true) → canonG P ops S L hs a → canonG P ops (fun _ => True) L hs a
 | [], _, _, h => h
 | i :: hs, _, hp, ⟨o, v, ho, hy, h⟩ => ⟨o, v, ho, hy.free (hp i List.mem_cons_self o ho) hw, canonG_free hw hs _ (fun k hk => hp k (List.mem_cons_of_mem _ hk)) h⟩
def closeB (md : Region.Mode) (ops : Array Oper) (H : List Nat) (t : Nat) : Bool := H.all fun h => Region.waitsFor md ops t h || (match ops[h]? with | some o => pureO o | none => false)
def tailK (P : Program) (md : Region.Mode) (ops : Array Oper) (Q : Exit → Act → World → Prop) (S : World → Prop) (H : List Nat) : Nat → List Nat → List Nat → Act → World → Prop
 | 0, _, _, a, w => ∀ W, Below w.heap.size w W → Q .normal a W
 | 1, _, ts, a, w => ∀ W, Below w.heap.size w W → ∀ t ∈ readyT md ops ts, wpOp P ops Q t (fun a' w' => Q .normal a' w') a W
 | n + 2, ps, ts, a, w => ∀ W, Below w.heap.size w W → ∀ t ∈ readyT md ops ts, wpOp P ops Q t (fun a' w' => if (closeB md ops H t && ps.isEmpty) = true then tailJ P md ops Q (fun _ => True) (n + 1) [] (ts.erase t) a' w'
   else S w' ∧ canonG P ops S (fun a'' => tailK P md ops Q S H (n + 1) (oldH md ops ps (ts.erase t)) (ts.erase t) a'' w') (newH md ops ps (ts.erase t)) a') a W
theorem tailK_grow {H : List Nat} {a : Act} {ps ts : List Nat} {w w' : World} (hb : Below w.heap.size w w') : ∀ n, tailK P md ops Q S H n ps ts a w → tailK P md ops Q S H n ps ts a w'
 | 0, h => fun W hW => h W (below_trans' hb hW)
 | 1, h => fun W hW => h W (below_trans' hb hW)
 | _ + 2, h => fun W hW => h W (below_trans' hb hW)
theorem wpAny_hk (H : List Nat) (hsel : Region.noSelect ops = true) (hsk : Region.sinkB md ops (ops.size - 1) = true) (hck : Region.chainB md ops (ops.size - 1) = true) (h0 : 0 < ops.size) (hdn : downB md ops = true)
  (hQ : ∀ c (a : Act) d v w, Q (.panic c) (a.put d v) w → Q (.panic c) a w) (hSg : ∀ w w', S w → Below w.heap.size w w' → S w') :
  ∀ (f : Nat) (hs ps ts : List Nat) (listed : Array Bool) (a : Act) (w : World), f + 1 = hs.length + ps.length + ts.length → RemJ md ops hs ps ts listed → (∀ i, i ∈ hs ∨ i ∈ ps → i ∈ H) → S w → canonG P ops S (fun a' => tailK P md ops Q S H ts.length ps ts a' w) hs a → wpAny P md ops Q (f + 1) listed a w
 | f, hs, ps, ts, listed, a, w, hf, R, hH, hS, hc => by
  have hselS := Region.noSelect_spec hsel
  refine ⟨fun hr => ?_, fun j hj => ?_⟩
  ·exfalso
   obtain ⟨m, hmin, hless⟩ := least_of (p := fun i => listed.getD i true) _ ((R.mem _).2 (.inr (.inr R.last)))
   have hlt := R.lt _ ((R.mem _).1 hmin)
   have : m ∈ Region.ready md ops listed := by
    rw [mem_ready]
    refine ⟨hmin, ops[m], by simp [hlt], fun e he hb => ?_⟩
    unfold downB at hdn
    rw [List.all_eq_true] at hdn
    have h1 := hdn m (List.mem_range.2 hlt)
    rw [Array.getElem?_eq_getElem hlt] at h1
    simp only [Option.map_some, Option.getD_some, Array.all_eq_true_iff_forall_mem] at h1
    have h2 := h1 e he
    rw [hb] at h2
    have h3 : e.on < m := by simpa using h2
    have h4 : listed.getD e.on true = true := hless e.on h3
    have h5 : e.on < listed.size := by rw [R.inv.size]; omega
    simp [h5] at h4 ⊢
    exact h4
   rw [hr] at this
   cases this
  ·obtain ⟨hun, oj, hoj, hall⟩ := mem_ready.1 hj
   have hjlt : j < ops.size := (Array.getElem?_eq_some_iff.1 hoj).1
   have hl1 : 0 < ts.length := List.length_pos_of_mem R.last
   obtain ⟨tn, htn⟩ : ∃ n, ts.length = n + 1 := ⟨ts.length - 1, by omega⟩
   have hok := R.ok
   rw [htn] at hok
   obtain ⟨o1, o2, o3, o4⟩ := hok
   have hapj : ∀ h ∈ hs, ap1 md ops h j = true → ∀ oh, ops[h]? = some oh → oh.apart ops oj = true := fun h hh h1 oh hoh =>
    ap1_spec h1 hoh hoj (ready_waits hj ((R.mem h).2 (.inl hh)))
   have hmem' : ∀ i, (listed.setIfInBounds j true).getD i true = false ↔ i ≠ j ∧ (i ∈ hs ∨ i ∈ ps ∨ i ∈ ts) := fun i => by
    by_cases hij : i = j
    ·subst hij
     simp only [ne_eq, not_true_eq_false, false_and, iff_false]
     rw [getD_set_self (by rw [R.inv.size]; exact hjlt)]; simp
    ·rw [getD_set_ne true (Ne.symm hij), R.mem]; simp [hij]
   rcases (R.mem j).1 hun with hjh | hjp | hjt
   ·obtain ⟨p, q, rfl⟩ := List.append_of_mem hjh
    have n1 := R.nh
    rw [List.nodup_append, List.nodup_cons] at n1
    obtain ⟨np, ⟨nq1, nq2⟩, nd⟩ := n1
    have hjp : j ∉ p := fun h => nd j h j List.mem_cons_self rfl
    have hjt := (R.d1 j hjh).2
    have hjps := (R.d1 j hjh).1
    have apq := List.pairwise_append.1 o1
    obtain ⟨v, hy, hcv⟩ := canonG_move hselS hoj p a (fun h hh => hapj h (by simp [hh]) (apq.2.2 h hh j List.mem_cons_self)) hc
    have hjn : j < ops.size - 1 := by
     have : j ≠ ops.size - 1 := fun e => hjt (e ▸ R.last)
     omega
    refine hy.op hoj hS fun w' hgr => ?_
    have hsub : (p ++ q).Sublist (p ++ j :: q) := (List.Sublist.refl p).append (List.sublist_cons_self j q)
    cases f with
    | zero => exfalso; simp at hf; omega
    | succ f =>
     refine wpAny_hk H hsel hsk hck h0 hdn hQ hSg f (p ++ q) ps ts _ _ w' (by simp at hf ⊢; omega) ⟨R.inv.set hj hjn, fun i => ?_, R.nh.sublist hsub, R.nt, fun i hi => R.d1 i (hsub.subset hi), R.d2, R.np, fun i hi => R.lt i (hi.imp (fun h => hsub.subset h) id), R.last, OkG.sub _ _ _ _ _ hsub R.ok⟩ (fun i hi => hH i (hi.imp (fun k => hsub.subset k) id)) (hSg w w' hS hgr) (canonG_mono (fun _ h => tailK_grow hgr _ h) _ _ hcv)
     rw [hmem']
     simp only [List.mem_append, List.mem_cons]
     refine ⟨fun ⟨h1, h2⟩ => ?_, fun h => ⟨fun e => ?_, ?_⟩⟩
     ·rcases h2 with (h2 | h2 | h2) | h2
      ·exact .inl (.inl h2)
      ·exact absurd h2 h1
      ·exact .inl (.inr h2)
      ·exact .inr h2
     ·subst e
      rcases h with (h | h) | h | h
      ·exact hjp h
      ·exact nq1 h
      ·exact hjps h
      ·exact hjt h
     ·rcases h with (h | h) | h
      ·exact .inl (.inl h)
      ·exact .inl (.inr (.inr h))
      ·exact .inr h
   ·exfalso
    obtain ⟨u, hu, hw⟩ := o3 j hjp
    rw [ready_waits hj ((R.mem u).2 (.inr ((List.mem_append.1 hu).symm)))] at hw
    cases hw
   ·have hjh : ∀ h ∈ hs, h ≠ j := fun h hh e => (R.d1 h hh).2 (e ▸ hjt)
    have hready : j ∈ readyT md ops ts := by
     unfold readyT
     rw [List.mem_filter]
     refine ⟨hjt, ?_⟩
     rw [List.all_eq_true]
     intro u hu
     rw [ready_waits hj ((R.mem u).2 (.inr (.inr hu)))]
     rfl
    have hlen : (ts.erase j).length + 1 = ts.length := by
     have := List.length_erase_of_mem hjt
     have := List.length_pos_of_mem hjt
     omega
    have hme : ∀ x, x ∈ ts.erase j ↔ x ≠ j ∧ x ∈ ts := fun x => R.nt.mem_erase_iff
    have hcase : ts.length = 1 ∨ ∃ n, ts.length = n + 2 := by
     rcases Nat.lt_or_ge ts.length 2 with h | h
     ·exact .inl (by omega)
     ·exact .inr ⟨ts.length - 2, by omega⟩
    rcases hcase with hl1 | ⟨n, hl2⟩
    ·have hjl : j = ops.size - 1 := by
      obtain ⟨x, hx⟩ := List.length_eq_one_iff.1 hl1
      have h1 := R.last
      rw [hx, List.mem_singleton] at h1 hjt
      rw [h1, hjt]
     have hno : ∀ h, h ∈ hs ∨ h ∈ ps → False := fun h hh => by
      have h2 := (R.mem h).2 (hh.imp id .inl)
      have h3 : h < ops.size - 1 := by
       have h4 := R.lt h (hh.imp id .inl)
       have : h ≠ j := hh.elim (hjh h) fun hp e => R.d2 h hp (e ▸ hjt)
       omega
      exact tail_waits hsk hck (by omega) R.inv _ h rfl h3 h2 j (by omega) hj
     have hnil : hs = [] := List.eq_nil_iff_forall_not_mem.2 fun h hh => hno h (.inl hh)
     have hnilp : ps = [] := List.eq_nil_iff_forall_not_mem.2 fun h hh => hno h (.inr hh)
     subst hnil hnilp
     obtain rfl : f = 0 := by rw [hl1] at hf; simpa using hf
     rw [hl1] at hc
     refine wpOp_mono (fun a' w' hq => ⟨?_, hq⟩) (hc w (Below.refl _ _) j hready)
     refine List.eq_nil_iff_forall_not_mem.2 fun i hi => ?_
     have := (hmem' i).1 (mem_ready.1 hi).1
     obtain ⟨x, hx⟩ := List.length_eq_one_iff.1 hl1
     rw [hx, List.mem_singleton] at hjt
     rw [hx] at this
     simp [hjt] at this
    ·have hjn : j < ops.size - 1 := by
      have h1 := R.last
      have : j ≠ ops.size - 1 := fun e => by
       have hlen2 : 0 < (ts.erase j).length := by omega
       obtain ⟨x, hx⟩ := List.exists_mem_of_length_pos hlen2
       obtain ⟨x1, x2⟩ := (hme x).1 hx
       have h2 := (R.mem x).2 (.inr (.inr x2))
       have h3 : x < ops.size - 1 := by
        have := R.lt x (.inr (.inr x2))
        omega
       exact tail_waits hsk hck (by omega) R.inv _ x rfl h3 h2 j (by omega) hj
      omega
     by_cases hcl : (closeB md ops H j && ps.isEmpty) = true
     ·obtain ⟨hcl1, hcl2⟩ := (Bool.and_eq_true _ _).mp hcl
      have hnilp : ps = [] := List.isEmpty_iff.1 hcl2
      subst hnilp
      unfold closeB at hcl1
      rw [List.all_eq_true] at hcl1
      have hpu : ∀ h ∈ hs, ∀ o, ops[h]? = some o → pureO o = true := fun h hh o ho => by
       have h2 := (R.mem h).2 (.inl hh)
       have h3 := hcl1 h (hH h (.inl hh))
       rw [ready_waits hj h2, ho] at h3
       simpa using h3
      have hc' := canonG_mono (L' := fun a' => wpOp P ops Q j (fun a' w' => tailJ P md ops Q (fun _ => True) (n + 1) [] (ts.erase j) a' w') a' w) (fun a' h => by rw [hl2] at h; exact wpOp_mono (fun a2 w2 hk => by rw [if_pos hcl] at hk; exact hk) (h w (Below.refl _ _) j hready)) hs a hc
      have h1 := canonG_push (K := fun a' w' => tailJ P md ops Q (fun _ => True) (n + 1) [] (ts.erase j) a' w') hselS hoj hQ hs a (fun h hh => hapj h hh (o2 h hh j hjt)) hc'
      cases f with
      | zero => exfalso; simp only [List.length_nil] at hf; omega
      | succ f =>
       refine wpOp_mono (fun a' w' hk => ?_) h1
       have hn1 : (ts.erase j).length = n + 1 := by omega
       refine wpAny_hj (S := fun _ => True) hsel hsk hck h0 hdn hQ (fun _ _ _ _ => trivial) f hs [] (ts.erase j) _ a' w' (by simp only [List.length_nil] at hf ⊢; omega) ⟨R.inv.set hj hjn, fun i => ?_, R.nh, R.nt.erase j, fun i hi => ⟨fun k => (by cases k), fun k => (R.d1 i hi).2 ((hme i).1 k).2⟩, fun i hi => (by cases hi), List.nodup_nil, fun i hi => R.lt i ?_, (hme _).2 ⟨by omega, R.last⟩, ?_⟩ trivial (by rw [hn1]; exact canonG_free hS hs a' hpu hk)
       ·rw [hmem', hme]
        refine ⟨fun ⟨h1, h2⟩ => ?_, fun h => ⟨fun e => ?_, ?_⟩⟩
        ·rcases h2 with h2 | h2 | h2
         ·exact .inl h2
         ·cases h2
         ·exact .inr (.inr ⟨h1, h2⟩)
        ·subst e
         rcases h with h | h | h
         ·exact hjh _ h rfl
         ·cases h
         ·exact h.1 rfl
        ·rcases h with h | h | h
         ·exact .inl h
         ·cases h
         ·exact .inr (.inr h.2)
       ·rcases hi with h | h | h
        ·exact .inl h
        ·cases h
        ·exact .inr (.inr ((hme i).1 h).2)
       ·have h4 := o4 j hready
        rw [show hs ++ newH md ops [] (ts.erase j) = hs from List.append_nil hs] at h4
        rw [show (ts.erase j).length = tn by omega]
        exact h4
     have hc' := canonG_mono (L' := fun a' => wpOp P ops Q j (fun a' w' => S w' ∧ canonG P ops S (fun a'' => tailK P md ops Q S H (n + 1) (oldH md ops ps (ts.erase j)) (ts.erase j) a'' w') (newH md ops ps (ts.erase j)) a') a' w) (fun a' h => by rw [hl2] at h; exact wpOp_mono (fun a2 w2 hk => by rw [if_neg hcl] at hk; exact hk) (h w (Below.refl _ _) j hready)) hs a hc
     have h1 := canonG_push (K := fun a' w' => S w' ∧ canonG P ops S (fun a'' => tailK P md ops Q S H (n + 1) (oldH md ops ps (ts.erase j)) (ts.erase j) a'' w') (newH md ops ps (ts.erase j)) a') hselS hoj hQ hs a (fun h hh => hapj h hh (o2 h hh j hjt)) hc'
     have hfl := free_len (md := md) (ops := ops) ps (ts.erase j)
     cases f with
     | zero => exfalso; omega
     | succ f =>
      refine wpOp_mono (fun a' w' hk => ?_) h1
      obtain ⟨_, hS', _⟩ := canonG_some hs a' hk
      have hn1 : (ts.erase j).length = n + 1 := by omega
      refine wpAny_hk H hsel hsk hck h0 hdn hQ hSg f (hs ++ newH md ops ps (ts.erase j)) (oldH md ops ps (ts.erase j)) (ts.erase j) _ a' w' (by rw [List.length_append]; omega) ⟨R.inv.set hj hjn, fun i => ?_, ?_, R.nt.erase j, fun i hi => ?_, fun i hi => ?_, ?_, fun i hi => R.lt i ?_, (hme _).2 ⟨by omega, R.last⟩, ?_⟩ ?_ hS' (by rw [hn1]; exact canonG_append hs _ a' (canonG_mono (fun _ h => h.2) hs a' hk))
      ·rw [hmem', List.mem_append, hme, mem_free (md := md) (ops := ops) (ps := ps) (ts := ts.erase j) i]
       refine ⟨fun ⟨h1, h2⟩ => ?_, fun h => ⟨fun e => ?_, ?_⟩⟩
       ·rcases h2 with h2 | (h2 | h2) | h2
        ·exact .inl (.inl h2)
        ·exact .inl (.inr h2)
        ·exact .inr (.inl h2)
        ·exact .inr (.inr ⟨h1, h2⟩)
       ·subst e
        rcases h with (h | h) | h | h
        ·exact hjh _ h rfl
        ·exact R.d2 i ((mem_free i).2 (.inl h)) hjt
        ·exact R.d2 i ((mem_free i).2 (.inr h)) hjt
        ·exact h.1 rfl
       ·rcases h with (h | h) | h | h
        ·exact .inl h
        ·exact .inr (.inl (.inl h))
        ·exact .inr (.inl (.inr h))
        ·exact .inr (.inr h.2)
      ·rw [List.nodup_append]
       refine ⟨R.nh, R.np.filter _, fun x hx y hy e => ?_⟩
       subst e
       exact (R.d1 x hx).1 ((mem_free x).2 (.inl hy))
      ·rcases List.mem_append.1 hi with h | h
       ·exact ⟨fun k => (R.d1 i h).1 ((mem_free i).2 (.inr k)), fun k => (R.d1 i h).2 ((hme i).1 k).2⟩
       ·exact ⟨fun k => not_both h k, fun k => R.d2 i ((mem_free i).2 (.inl h)) ((hme i).1 k).2⟩
      ·exact fun k => R.d2 i ((mem_free i).2 (.inr hi)) ((hme i).1 k).2
      ·exact R.np.filter _
      ·rcases hi with h | h | h
       ·rcases List.mem_append.1 h with h | h
        ·exact .inl h
        ·exact .inr (.inl ((mem_free i).2 (.inl h)))
       ·exact .inr (.inl ((mem_free i).2 (.inr h)))
       ·exact .inr (.inr ((hme i).1 h).2)
      ·have h4 := o4 j hready
       rw [show (ts.erase j).length = tn by omega]
       exact h4
      ·intro i hi
       rcases hi with h | h
       ·rcases List.mem_append.1 h with h | h
        ·exact hH i (.inl h)
        ·exact hH i (.inr ((mem_free i).2 (.inl h)))
       ·exact hH i (.inr ((mem_free i).2 (.inr h)))
theorem wp_region_hk {id : Nat} {a : Act} {w : World} {l : List Oper} (hs ps ts : List Nat) (S : World → Prop) (hm : P.follows .mixedOrders = true) (hB : hjB .any l.toArray hs ps ts = true)
  (hSg : ∀ w w', S w → Below w.heap.size w w' → S w') (hS : S w.drew) (h : canonG P l.toArray S (fun a' => tailK P .any l.toArray (NoPanic Q) S (hs ++ ps) ts.length ps ts a' w.drew) hs a) : (Code.region id l.toArray true).wp P Q a w := by
 simp only [hjB, Bool.and_eq_true, decide_eq_true_eq] at hB
 obtain ⟨⟨⟨⟨⟨⟨⟨⟨⟨⟨b1, b2⟩, b3⟩, b4⟩, b5⟩, b6⟩, b8⟩, b9⟩, b10⟩, b11⟩, b12⟩ := hB
 refine wp_region_noPanic (wp_region_any hm ?_)
 rw [List.all_eq_true] at b9 b10
 have hlt : ∀ i ∈ hs ++ (ps ++ ts), i < l.toArray.size := fun i hi => by simpa using b9 i hi
 obtain ⟨f, hf⟩ : ∃ f, l.toArray.size = f + 1 := ⟨l.toArray.size - 1, by omega⟩
 have hmm : ∀ i, (i ∈ hs ∨ i ∈ ps ∨ i ∈ ts) ↔ i ∈ hs ++ (ps ++ ts) := fun i => by simp only [List.mem_append]
 rw [List.nodup_append, List.nodup_append] at b8
 obtain ⟨n1, ⟨n2, n3, n4⟩, n5⟩ := b8
 have R : RemJ .any l.toArray hs ps ts (Array.replicate l.toArray.size false) := by
  refine ⟨⟨by simp, fun j oj _ hl => (by rw [getD_replicate_false] at hl; cases hl), fun t _ ht => getD_in (by simpa using ht) (getD_replicate_false _ _)⟩, fun i => ⟨fun hi => ?_, fun hi => ?_⟩, n1, n3, fun i hi => ⟨fun k => n5 i hi i (List.mem_append.2 (.inl k)) rfl, fun k => n5 i hi i (List.mem_append.2 (.inr k)) rfl⟩, fun i hi k => n4 i hi i k rfl, n2, fun i hi => hlt i ((hmm i).1 hi), by simpa using b11, okG_spec _ _ _ _ b6⟩
  ·rw [hmm]
   rcases Nat.lt_or_ge i l.toArray.size with h | h
   ·simpa using b10 i (List.mem_range.2 h)
   ·rw [show (Array.replicate l.toArray.size false).getD i true = true by simp [Nat.not_lt.2 (by simpa using h)]] at hi; cases hi
  ·exact getD_in (by simpa using hlt i ((hmm i).1 hi)) (getD_replicate_false _ _)
 have := wpAny_hk (P := P) (Q := NoPanic Q) (S := S) (hs ++ ps) b1 b2 b3 b4 b5 (fun _ _ _ _ _ h => h) hSg f hs ps ts _ a w.drew (by omega) R (fun i hi => List.mem_append.2 hi) hS h
 rw [← hf] at this
 exact this
theorem tailK_one {H : List Nat} {n t : Nat} {ps ts ns ps' ts' : List Nat} {o : Oper} {a : Act} {w : World} (hr : readyT md ops ts = [t]) (he : ts.erase t = ts') (hn : newH md ops ps ts' = ns) (hp : oldH md ops ps ts' = ps') (ho : ops[t]? = some o) (hcl : (closeB md ops H t && ps.isEmpty) = false)
  (h : ∀ W, Below w.heap.size w W → wpList P ops (Thn Q fun a' w' => S w' ∧ canonG P ops S (fun a'' => tailK P md ops Q S H (n + 1) ps' ts' a'' w') ns a') [o] a W) : tailK P md ops Q S H (n + 2) ps ts a w := by
 intro W hW u hu
 rw [hr, List.mem_singleton] at hu
 subst hu
 rw [he, hn, hp]
 simp only [hcl, Bool.false_eq_true, if_false]
 exact wpOp_of_list ho (h W hW)
theorem tailK_close {H : List Nat} {n t : Nat} {ts ts' : List Nat} {o : Oper} {a : Act} {w : World} (hr : readyT md ops ts = [t]) (he : ts.erase t = ts') (ho : ops[t]? = some o) (hcl : closeB md ops H t = true)
  (h : ∀ W, Below w.heap.size w W → wpList P ops (Thn Q fun a' w' => tailJ P md ops Q (fun _ => True) (n + 1) [] ts' a' w') [o] a W) : tailK P md ops Q S H (n + 2) [] ts a w := by
 intro W hW u hu
 rw [hr, List.mem_singleton] at hu
 subst hu
 rw [he]
 simp only [hcl, List.isEmpty_nil, Bool.and_self, if_true]
 exact wpOp_of_list ho (h W hW)
theorem tailK_last {H : List Nat} {t : Nat} {ps ts : List Nat} {o : Oper} {a : Act} {w : World} (hr : readyT md ops ts = [t]) (ho : ops[t]? = some o) (h : ∀ W, Below w.heap.size w W → wpList P ops Q [o] a W) : tailK P md ops Q S H 1 ps ts a w := by
 intro W hW u hu
 rw [hr, List.mem_singleton] at hu
 subst hu
 exact tailW_last (S := fun _ => True) ho (h W hW)
theorem tails_one {n t : Nat} {ts ts' : List Nat} {o : Oper} {a : Act} {w : World} (hr : readyT md ops ts = [t]) (he : ts.erase t = ts') (ho : ops[t]? = some o)
  (h : ∀ W, Below w.heap.size w W → wpList P ops (Thn Q fun a' w' => tailJ P md ops Q (fun _ => True) (n + 1) [] ts' a' w') [o] a W) : tailJ P md ops Q (fun _ => True) (n + 2) [] ts a w := by
 intro W hW u hu
 rw [hr, List.mem_singleton] at hu
 subst hu
 rw [he]
 exact wpOp_mono (fun a' w' hk => ⟨trivial, hk⟩) (wpOp_of_list ho (h W hW))
end
end Go.Proofs.YtihhclhpjgeniaaGreatDoor
