/- Walks: two cards together, the reference's; one more entry, the reference's. -/
import Derived.Test.YtpoodhhajghaoaaGreatDoorC12
namespace Go.Proofs.YtpoodhhajghaoaaGreatDoor
open Go.RowKit Go.Sort

def partE (e f : Ent) : Prop := e.1 = f.1 ∧ e.2.1 = f.2.1 ∧ e ≠ f
instance (e f : Ent) : Decidable (partE e f) := by unfold partE; infer_instance
def noP1 (e : Ent) (l : List Ent) : Prop := ∀ f ∈ l, ¬ partE e f
def noP2 (l fs : List Ent) : Prop := ∀ e ∈ l, noP1 e fs
theorem noPart_iff {a b : List Ent} : noPart a b ↔ noP2 a b := by
  unfold noPart noP2 noP1 partE
  constructor
  · intro h e he f hf ⟨h1, h2, h3⟩
    exact h3 (h e he f hf h1 h2)
  · intro h e he f hf h1 h2
    exact Classical.byContradiction fun h3 => h e he f hf ⟨h1, h2, h3⟩
theorem val2_bad1 {a b : List Ent} (h : val a ≠ 0) : val2 a b = val a := if_pos h
theorem val2_bad2 {a b : List Ent} (h : val a = 0) (h2 : val b ≠ 0) : val2 a b = val b := by unfold val2; rw [if_neg (fun h' => h' h), if_pos h2]
theorem val2_part {a b : List Ent} (h : val a = 0) (h2 : val b = 0) {e f : Ent} (he : e ∈ a) (hf : f ∈ b) (hp : partE e f) : val2 a b = 12 := by
  unfold val2
  rw [if_neg (fun h' => h' h), if_neg (fun h' => h' h2), if_neg]
  exact fun hn => noPart_iff.1 hn e he f hf hp
theorem val2_ok {a b : List Ent} (h : val a = 0) (h2 : val b = 0) (hn : noP2 a b) : val2 a b = 0 := by
  unfold val2
  rw [if_neg (fun h' => h' h), if_neg (fun h' => h' h2), if_pos (noPart_iff.2 hn)]
set_option maxRecDepth 4000 in
/-- Append of what a slice reads onto the call's own row. -/
theorem wpList_pushO {ops : Array Oper} {rest : List Oper} {o : Oper} {a : Act} {Q : Exit → Act → World → Prop} (hgd : o.guard = none) (s x : Operand)
    (ho : o.op = .call { callee := .builtin .append, args := #[s, x], argTypes := #[22, 22] })
    (w0 w : World) (A : Option Addr) (n c : Nat) (xs : List Value) (X : Option Addr) (m cc : Nat) (news : List Ent) (hs : a.eval s = .slice A n c) (hown : OwnX 38 6 w0 w (.slice A n c) n xs)
    (hx : a.eval x = .slice X m cc) (hr : Reads w w.heap.size 6 X m (ents news)) (hlen : n + m ≤ 1000000000)
    (h : ∀ A' c' w', OwnX 38 6 w0 w' (.slice A' (n + m) c') (n + m) (xs ++ ents news) → wpList Tryz.prog ops Q rest (a.put o.dst (.slice A' (n + m) c')) w') :
    wpList Tryz.prog ops Q (o :: rest) a w :=
  wpList_pushXm hgd s x 22 38 ho Tryz.underlying22 info53b rfl (by omega) (by omega) w0.heap.size w A n c xs X m cc (ents news) hs hown.row hown.bel.size hx hr (ents_one _) hlen
    fun A' c' w' h1 h2 _ => h A' c' w' ⟨h1, hown.bel.grown h2 hown.bel.size fun k hk => (hown.row.lt k hk).1⟩
/-- What the slot holds: a slice of the call's own with these entries. -/
def Held (w0 : World) (l : List Ent) (w : World) (v : Value) : Prop := ∃ A c, v = .slice A l.length c ∧ OwnX 38 6 w0 w (.slice A l.length c) l.length (ents l)
theorem Held.on {w0 w w' : World} {l : List Ent} {v : Value} (h : Held w0 l w v) (hb : Below w.heap.size w w') : Held w0 l w' v := by
  obtain ⟨A, c, hv, ho⟩ := h
  exact ⟨A, c, hv, ho.on hb⟩
theorem Held.nil {w0 w : World} (hb : Below w0.heap.size w0 w) : Held w0 [] w (.slice none 0 0) := ⟨none, 0, rfl, World.ownsRow_nil _ _ _ _, hb⟩
theorem Held.bel {w0 w : World} {l : List Ent} {v : Value} (h : Held w0 l w v) : Below w0.heap.size w0 w := by obtain ⟨_, _, _, ho⟩ := h; exact ho.bel
theorem Held.of {w0 w : World} {l l' : List Ent} {A : Option Addr} {n c : Nat} (h : OwnX 38 6 w0 w (.slice A n c) n (ents l ++ ents l')) (hn : n = l.length + l'.length) : Held w0 (l ++ l') w (.slice A n c) := by
  have e : (l ++ l').length = n := by simp [hn]
  refine ⟨A, c, by rw [e], ?_⟩
  rw [e, ents_append]
  exact h
def mg (a b : List Ent) : Nat → List Ent
  | 0 => []
  | p + 1 => mg a b p ++ (ofP a p ++ ofP (wo b a false) p)
theorem mg_three (a b : List Ent) : mg a b 3 = mergeR a b := by
  show (([] ++ _) ++ _) ++ _ = _
  rw [List.nil_append]
  rfl
theorem ofP_le (c : List Ent) (p : Int) : (ofP c p).length ≤ c.length := List.length_filter_le _ _
theorem wo_le (a b : List Ent) (cm : Bool) : (wo a b cm).length ≤ a.length := List.length_filter_le _ _
theorem mg_le (a b : List Ent) (k : Nat) : (mg a b k).length ≤ k * (a.length + b.length) := by
  induction k with
  | zero => exact Nat.le_of_eq (by simp [mg])
  | succ k ih =>
    have h1 := ofP_le a k
    have h2 := ofP_le (wo b a false) k
    have h3 := wo_le b a false
    show (mg a b k ++ _).length ≤ _
    rw [List.length_append, List.length_append, Nat.add_mul, Nat.one_mul]
    omega
def mrgE (a b : List Ent) : Int := if val2 a b ≠ 0 then val2 a b else if 60 < (mergeR a b).length then 4 else 0
def mrgL (a b : List Ent) : List Ent := if mrgE a b = 0 then mergeR a b else []
theorem mrg_bad {a b : List Ent} (h : val2 a b ≠ 0) : mrgE a b = val2 a b ∧ mrgL a b = [] := by
  have h1 : mrgE a b = val2 a b := if_pos h
  exact ⟨h1, by unfold mrgL; rw [h1, if_neg h]⟩
theorem mrg_large {a b : List Ent} (h : val2 a b = 0) (h2 : 60 < (mergeR a b).length) : mrgE a b = 4 ∧ mrgL a b = [] := by
  have h1 : mrgE a b = 4 := by unfold mrgE; rw [if_neg (fun h' => h' h), if_pos h2]
  exact ⟨h1, by unfold mrgL; rw [h1]; rfl⟩
theorem mrg_ok {a b : List Ent} (h : val2 a b = 0) (h2 : ¬ 60 < (mergeR a b).length) : mrgE a b = 0 ∧ mrgL a b = mergeR a b := by
  have h1 : mrgE a b = 0 := by unfold mrgE; rw [if_neg (fun h' => h' h), if_neg h2]
  exact ⟨h1, by unfold mrgL; rw [if_pos h1]⟩
end Go.Proofs.YtpoodhhajghaoaaGreatDoor
