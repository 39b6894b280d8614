/- Styles as plain data: what a style means; items in memory. -/
import Derived.Test.YtgkgloafjhiakaaDoorQ1
namespace Go.Proofs.YtgkgloafjhiakaaDoor
open Go.RowKit Go.Sort

/-- What is left of a text, a length, a word. -/
abbrev PR := List UInt8 × Nat × List UInt8
def signW (c : UInt8) (w : List UInt8) : List UInt8 := if c = 33 then inL w else if c = 126 then miL w else if c = 37 then flL w else w
def signsW (ss w : List UInt8) : List UInt8 := ss.foldr signW w
def rep (n : Nat) (w : List UInt8) : List UInt8 := (List.replicate n w).flatten
def isDig (c : UInt8) : Bool := 48 ≤ c.toNat && c.toNat ≤ 57
/-- Behind a closing parenthesis: a digit, or none. -/
def pTail (s : List UInt8) (l : Nat) (w : List UInt8) : PR :=
  match s with
  | [] => ([], l, w)
  | c :: u => if isDig c then (u, (c.toNat - 48) * l, rep (c.toNat - 48) w) else (c :: u, l, w)
/-- One item; the reader of what stands in parentheses given. -/
def pOne (inner : List UInt8 → Option PR) (s : List UInt8) : Option PR :=
  match s.dropWhile isSign with
  | [] => none
  | c :: t =>
    if isL c then some (t, 1, signsW (s.takeWhile isSign) [c])
    else if c = 40 then
      match inner t with
      | some (41 :: u, l, w) => some ((pTail u l w).1, (pTail u l w).2.1, signsW (s.takeWhile isSign) (pTail u l w).2.2)
      | _ => none
    else none
def pItems : Nat → Nat → List UInt8 → Option PR
  | 0, _, _ => none
  | f + 1, d, s =>
    match s with
    | [] => some ([], 0, [])
    | c :: u =>
      if c = 41 then some (c :: u, 0, [])
      else match pOne (fun t => if d < 8 then pItems f (d + 1) t else none) (c :: u) with
        | none => none
        | some (r, l, w) => match pItems f d r with
          | none => none
          | some (r', l', w') => some (r', l + l', w ++ w')
theorem known_style : pItems 20 0 [33, 40, 97, 98, 41, 50] = some ([], 4, [66, 65, 66, 65]) := by decide
/-- An item: signs, a letter, the slice inside, how often; length and word of what is inside. -/
structure Elt where
  signs : List UInt8
  letter : List UInt8
  A : Option Addr
  n : Nat
  c : Nat
  times : Nat
  L : Nat
  W : List UInt8
def Elt.cells (e : Elt) : List Value := [.string (mkB e.signs), .string (mkB e.letter), .slice e.A e.n e.c, .int .i64 (e.times : Int)]
def elts (es : List Elt) : List Value := es.flatMap Elt.cells
def lenE : List Elt → Nat
  | [] => 0
  | e :: es => e.times * (e.letter.length + e.L) + lenE es
def wordE : List Elt → List UInt8
  | [] => []
  | e :: es => signsW e.signs (rep e.times (e.letter ++ e.W)) ++ wordE es
theorem lenE_append (a b : List Elt) : lenE (a ++ b) = lenE a + lenE b := by
  induction a with
  | nil => simp [lenE]
  | cons e l ih => simp only [List.cons_append, lenE, ih]; omega
theorem wordE_append (a b : List Elt) : wordE (a ++ b) = wordE a ++ wordE b := by
  induction a with
  | nil => simp [wordE]
  | cons e l ih => simp only [List.cons_append, wordE, ih, List.append_assoc]
theorem elts_length (es : List Elt) : (elts es).length = es.length * 4 := by
  induction es with
  | nil => rfl
  | cons e l ih =>
    show (e.cells ++ elts l).length = _
    rw [List.length_append, ih]; simp [Elt.cells]; omega
theorem elts_append (a b : List Elt) : elts (a ++ b) = elts a ++ elts b := by simp [elts]
theorem elts_one (es : List Elt) : ∀ u ∈ elts es, u.oneCell' = true := by
  intro u hu
  simp only [elts, List.mem_flatMap, Elt.cells, List.mem_cons, List.not_mem_nil, or_false] at hu
  obtain ⟨e, _, rfl | rfl | rfl | rfl⟩ := hu <;> rfl
theorem elts_get {es : List Elt} {k i : Nat} (h : k < es.length) (hi : i < 4) : (elts es)[k * 4 + i]? = (es[k].cells)[i]? := by
  induction es generalizing k with
  | nil => simp at h
  | cons e l ih =>
    have hl : e.cells.length = 4 := rfl
    show (e.cells ++ elts l)[k * 4 + i]? = _
    cases k with
    | zero => rw [List.getElem?_append_left (by omega)]; simp
    | succ k =>
      have := ih (k := k) (by simpa using h)
      rw [List.getElem?_append_right (by omega), hl, show (k + 1) * 4 + i - 4 = k * 4 + i by omega]
      simpa using this
/-- What an item keeps to. -/
def EltOk (e : Elt) : Prop := e.signs.length ≤ 1000000 ∧ e.letter.length ≤ 1 ∧ e.times ≤ 9 ∧ e.n ≤ 1000000
/-- A slice of items, nested so deep; none of its blocks is forbidden. -/
def Its (w : World) (No : Nat → Prop) (B : Nat) : Nat → Option Addr → Nat → List Elt → Prop
  | 0, _, n, es => n = 0 ∧ es = []
  | k + 1, A, n, es => Reads w B 4 A n (elts es) ∧ (0 < n → ∀ p, A = some p → ¬ No p.block) ∧ ∀ e ∈ es, EltOk e ∧ ∃ es', Its w No B k e.A e.n es' ∧ e.L = lenE es' ∧ e.W = wordE es'
theorem Reads.kept2 {w w' : World} {B size n : Nat} {A : Option Addr} {xs : List Value} (h : Reads w B size A n xs) (hk : 0 < n → ∀ q p : Addr, A = some q → p.block = q.block → w'.cell? p = w.cell? p) : Reads w' B size A n xs := by
  refine ⟨h.len, fun h0 => ?_⟩
  obtain ⟨p, hp, hB, hc⟩ := h.look h0
  exact ⟨p, hp, hB, fun j v hj => by rw [hk h0 p (p.add j) hp (blockAdd p j)]; exact hc j v hj⟩
theorem Its.kept {w w' : World} {No : Nat → Prop} {B : Nat} (hk : ∀ p : Addr, p.block < B → ¬ No p.block → w'.cell? p = w.cell? p) : ∀ {k : Nat} {A : Option Addr} {n : Nat} {es : List Elt}, Its w No B k A n es → Its w' No B k A n es
  | 0, _, _, _, h => h
  | k + 1, A, n, es, ⟨h1, h2, h3⟩ => by
    refine ⟨h1.kept2 fun h0 q p hq hp => hk p ?_ ?_, h2, fun e he => ?_⟩
    · obtain ⟨q', hq', hB, _⟩ := h1.look h0
      rw [hq] at hq'
      obtain rfl := Option.some.inj hq'
      rw [hp]; exact hB
    · rw [hp]; exact h2 h0 q hq
    · obtain ⟨h4, es', h5, h6⟩ := h3 e he
      exact ⟨h4, es', Its.kept hk h5, h6⟩
theorem Its.more {w : World} {No : Nat → Prop} {B B' : Nat} (hB : B ≤ B') : ∀ {k : Nat} {A : Option Addr} {n : Nat} {es : List Elt}, Its w No B k A n es → Its w No B' k A n es
  | 0, _, _, _, h => h
  | k + 1, A, n, es, ⟨h1, h2, h3⟩ => ⟨h1.more hB, h2, fun e he => by
      obtain ⟨h4, es', h5, h6⟩ := h3 e he
      exact ⟨h4, es', Its.more hB h5, h6⟩⟩
theorem Its.no {w : World} {No No' : Nat → Prop} {B : Nat} (hN : ∀ k, k < B → No' k → No k) : ∀ {k : Nat} {A : Option Addr} {n : Nat} {es : List Elt}, Its w No B k A n es → Its w No' B k A n es
  | 0, _, _, _, h => h
  | k + 1, A, n, es, ⟨h1, h2, h3⟩ => ⟨h1, fun h0 p hp hn => by
      obtain ⟨q', hq', hB, _⟩ := h1.look h0
      rw [hp] at hq'
      obtain rfl := Option.some.inj hq'
      exact h2 h0 p hp (hN _ hB hn), fun e he => by
      obtain ⟨h4, es', h5, h6⟩ := h3 e he
      exact ⟨h4, es', Its.no hN h5, h6⟩⟩
theorem Its.grown {w w' : World} {No : Nat → Prop} {row : Option Nat} {k : Nat} {A : Option Addr} {n : Nat} {es : List Elt} (h : Its w No w.heap.size k A n es) (hg : w.grownBy w' row) (hr : ∀ r, row = some r → No r) : Its w' No w'.heap.size k A n es :=
  Its.more hg.size (Its.kept (fun p hp hn => hg.cell_far p hp (fun e => hn (hr _ e.symm))) h)
theorem Its.below {w w' : World} {No : Nat → Prop} {k : Nat} {A : Option Addr} {n : Nat} {es : List Elt} (h : Its w No w.heap.size k A n es) (hb : Below w.heap.size w w') : Its w' No w'.heap.size k A n es :=
  Its.more hb.size (Its.kept (fun _ hp _ => hb.cell hp) h)
theorem Its.nil (w : World) (No : Nat → Prop) (B k : Nat) : Its w No B k none 0 [] := by
  cases k with
  | zero => exact ⟨rfl, rfl⟩
  | succ k => exact ⟨Reads.nil, fun h => absurd h (by omega), fun e he => absurd he (by simp)⟩
theorem signW_length (c : UInt8) (w : List UInt8) : (signW c w).length = w.length := by
  unfold signW
  split
  · exact inL_length w
  · split
    · simp [miL]
    · split
      · simp [flL]
      · rfl
theorem signsW_length (ss w : List UInt8) : (signsW ss w).length = w.length := by
  unfold signsW
  induction ss with
  | nil => rfl
  | cons c l ih => rw [List.foldr_cons, signW_length, ih]
theorem rep_length (n : Nat) (w : List UInt8) : (rep n w).length = n * w.length := by
  unfold rep
  induction n with
  | zero => simp
  | succ n ih => rw [List.replicate_succ, List.flatten_cons, List.length_append, ih, Nat.succ_mul]; omega
theorem wordE_length : ∀ {es : List Elt}, (∀ e ∈ es, e.W.length = e.L) → (wordE es).length = lenE es
  | [], _ => rfl
  | e :: es, h => by
    rw [wordE, lenE, List.length_append, signsW_length, rep_length, List.length_append, h e (by simp), wordE_length fun x hx => h x (by simp [hx])]
theorem Its.len {w : World} {No : Nat → Prop} {B : Nat} : ∀ {k : Nat} {A : Option Addr} {n : Nat} {es : List Elt}, Its w No B k A n es → (wordE es).length = lenE es
  | 0, _, _, _, ⟨_, h⟩ => by rw [h]; rfl
  | k + 1, A, n, es, ⟨_, _, h3⟩ => wordE_length fun e he => by
      obtain ⟨_, es', h5, h6, h7⟩ := h3 e he
      rw [h6, h7]; exact Its.len h5
end Go.Proofs.YtgkgloafjhiakaaDoor
