/- A row of the call's own, of elements of k cells, sorted by the library: what lies in it behind the sort. No program stands here. -/
import Derived.Test.YtpoodhhajghaoaaGreatDoorCa
import Derived.Shelf.SlSortCmp.NoneTotal
namespace Go.Proofs.YtpoodhhajghaoaaGreatDoor
open Go.RowKit Go.Sort Go.Lib

section
variable {α : Type} [Inhabited α] {enc : α → List Value} {k : Nat}
omit [Inhabited α] in
theorem flatMap_len (hk : ∀ x, (enc x).length = k) (l : List α) : (l.flatMap enc).length = l.length * k := by
  induction l with
  | nil => simp
  | cons a l ih => rw [List.flatMap_cons, List.length_append, ih, hk, List.length_cons, Nat.add_mul]; omega
theorem flatMap_get (hk : ∀ x, (enc x).length = k) (l : List α) (t : Nat) (h : t < l.length * k) : (l.flatMap enc)[t]? = some (enc (l.toArray[t / k]!))[t % k]! := by
  have k0 : 0 < k := by
    rcases Nat.eq_zero_or_pos k with h0 | h0
    · subst h0; simp at h
    · exact h0
  induction l generalizing t with
  | nil => simp at h
  | cons a l ih =>
    rw [List.flatMap_cons]
    by_cases hlt : t < k
    · rw [List.getElem?_append_left (by rw [hk]; exact hlt), Nat.div_eq_of_lt hlt, Nat.mod_eq_of_lt hlt]
      rw [List.getElem?_eq_getElem (by rw [hk]; exact hlt)]
      simp [getElem!_pos, hk, hlt]
    · rw [List.getElem?_append_right (by rw [hk]; omega), hk]
      have h' : t - k < l.length * k := by rw [List.length_cons, Nat.add_mul] at h; omega
      rw [ih (t - k) h']
      have e1 : t / k = (t - k) / k + 1 := by rw [← Nat.add_div_right _ k0]; congr 1; omega
      have e2 : t % k = (t - k) % k := by rw [← Nat.add_mod_right (t - k) k]; congr 1; omega
      rw [e1, e2]
      have hd : (t - k) / k < l.length := Nat.div_lt_of_lt_mul (by rw [Nat.mul_comm]; exact h')
      simp [getElem!_pos, hd]
theorem flatK_list (hk : ∀ x, (enc x).length = k) (l : List α) : (flatK enc k l.toArray).toList = l.flatMap enc := by
  apply List.ext_getElem?
  intro t
  by_cases h : t < l.length * k
  · rw [flatMap_get hk l t h]
    have hs : t < (flatK enc k l.toArray).size := by rw [size_flatK]; simpa using h
    rw [Array.getElem?_toList, Array.getElem?_eq_getElem hs, ← get_flatK enc k l.toArray t (by simpa using h), getElem!_pos _ t hs]
  · rw [List.getElem?_eq_none (l := l.flatMap enc) (by rw [flatMap_len hk]; omega), Array.getElem?_toList, Array.getElem?_eq_none (by rw [size_flatK]; simpa using h)]
theorem holdsK_of_row (hk : ∀ x, (enc x).length = k) {w : World} {g : Nat} {cur : Array Value} {e : TypeId} {l : List α} (hb : w.heap[g]? = some (.cells cur e (0, 0))) (ht : cur.toList.take (l.length * k) = l.flatMap enc) :
    HoldsK enc k w g 0 l.toArray := by
  intro j hj
  rw [size_flatK] at hj
  have hj' : j < l.length * k := by simpa using hj
  refine ⟨?_, by simp [World.frozen?, hb]⟩
  have h1 : (cur.toList.take (l.length * k))[j]? = (l.flatMap enc)[j]? := by rw [ht]
  rw [List.getElem?_take_of_lt hj', flatMap_get hk l j hj'] at h1
  simp only [World.cell?, hb, Nat.zero_add]
  simp only [Option.isSome_none, Bool.false_eq_true, if_false]
  rw [← Array.getElem?_toList, h1, get_flatK enc k l.toArray j (by simpa using hj')]
  rfl
theorem heap_sortedK {w : World} {g n : Nat} {os : Array Obj} {cur : Array Value} {e : TypeId} {fr : Nat × Nat} (d : Array α) (hb : w.heap[g]? = some (.cells cur e fr)) :
    (sortWorldK enc k w g 0 n d os).heap[g]? = some (.cells (putCells id 0 (flatK enc k d) cur) e fr) := by
  have hg : g < w.heap.size := (Array.getElem?_eq_some_iff.1 hb).1
  unfold sortWorldK putRowK
  rw [heap_grow_old _ _ (by simpa using hg)]
  simp [putRow, mapBlock, Sort.ahead, Array.getElem?_modify, hb, onCells]
theorem grownBy_sortedK {w : World} {g n : Nat} {os : Array Obj} (d : Array α) : w.grownBy (sortWorldK enc k w g 0 n d os) (some g) := by
  unfold sortWorldK putRowK
  refine ⟨rfl, rfl, rfl, by simp, fun j hj hne => ?_⟩
  rw [heap_grow_old _ _ (by simpa using hj)]
  have : g ≠ j := fun e => hne (by rw [e])
  simp [putRow, mapBlock, Sort.ahead, Array.getElem?_modify, this]
theorem take_putCellsK (cur F : Array Value) (h : F.size ≤ cur.size) : (putCells id 0 F cur).toList.take F.size = F.toList := by
  apply List.ext_getElem?
  intro j
  by_cases hj : j < F.size
  · rw [List.getElem?_take_of_lt hj, Array.getElem?_toList]
    simp [putCells, hj, show j < cur.size by omega]
  · rw [List.getElem?_take_eq_none (by omega), List.getElem?_eq_none (by simp; omega)]
/-- Behind the sort the same slice owns the other list. -/
theorem ownsRow_sortedK (hk : ∀ x, (enc x).length = k) {w : World} {base g cap m : Nat} {e : TypeId} {os : Array Obj} {cur : Array Value} {l t : List α} (hl : t.length = l.length) (hbase : base ≤ g) (hb : w.heap[g]? = some (.cells cur e (0, 0)))
    (h1 : l.length ≤ cap) (h2 : cap ≤ maxLen) (h3 : cur.size = cap * k) :
    (sortWorldK enc k w g 0 m t.toArray os).ownsRow base e k (.slice (some ⟨g, 0, none⟩) l.length cap) l.length (t.flatMap enc) := by
  have hF : (flatK enc k t.toArray).size = l.length * k := by rw [size_flatK]; simp [hl]
  refine ⟨by rw [flatMap_len hk, hl], .inr ⟨g, cap, _, rfl, hbase, heap_sortedK _ hb, h1, h2, by simp [putCells, h3], ?_⟩⟩
  rw [← hF, take_putCellsK _ _ (by rw [hF, h3]; exact Nat.mul_le_mul_right _ h1), flatK_list hk]
end
end Go.Proofs.YtpoodhhajghaoaaGreatDoor
