/- Walks: the library's sort of numbers of entries. -/
import Derived.Test.YtpoodhhajghaoaaGreatDoorO1
namespace Go.Proofs.YtpoodhhajghaoaaGreatDoor
open Go.RowKit Go.Sort Go.Shelf

/-- One entry comes ahead of another one: it has seen less, or as much, at a lesser place. -/
def aheadE (x y : Ent) : Prop := age x < age y ∨ (age x = age y ∧ x.1 < y.1)
instance (x y : Ent) : Decidable (aheadE x y) := inferInstanceAs (Decidable (_ ∨ _))
theorem cmpO_neg (x y : Ent) : cmpO x y < 0 ↔ aheadE x y := by
  unfold cmpO aheadE or0 cmpI
  by_cases h1 : age x < age y
  · simp [h1]
  · by_cases h2 : age y < age x
    · simp [h1, h2]; omega
    · have h3 : age x = age y := by omega
      by_cases h4 : x.1 < y.1
      · simp [h3, h4]
      · by_cases h5 : y.1 < x.1
        · simp [h3, h4, h5]
        · simp [h3, h4, h5]
section
variable {α : Type} [Inhabited α] {enc : α → Value}
theorem sortWorld_one (w : World) (g m : Nat) (d : Array α) (os : Array Obj) : sortWorld enc w g 0 m d os = sortWorldK (fun x => [enc x]) 1 w g 0 m d os := by
  unfold sortWorld sortWorldK putRowK putRow
  congr 2
  funext c
  unfold putCells
  congr 1
  funext k x
  have hs : (flatK (fun x => [enc x]) 1 d).size = d.size := by rw [size_flatK]; omega
  rw [hs]
  by_cases hk : k < d.size
  · rw [if_pos (by omega), if_pos (by omega)]
    show enc d[k - 0]! = id (flatK (fun x => [enc x]) 1 d)[k - 0]!
    rw [Nat.sub_zero, get_flatK _ _ _ _ (by omega), Nat.div_one, Nat.mod_one]
    rfl
  · rw [if_neg (by omega), if_neg (by omega)]
theorem holds_one {w : World} {g : Nat} {d : Array α} (h : HoldsK (fun x => [enc x]) 1 w g 0 d) : Holds enc w g 0 d := by
  intro j hj
  have hs : (flatK (fun x => [enc x]) 1 d).size = d.size := by rw [size_flatK]; omega
  have := h j (by omega)
  rw [get_flatK _ _ _ _ (by omega), Nat.div_one, Nat.mod_one] at this
  exact this
omit [Inhabited α] in
theorem flat_one (l : List α) : l.flatMap (fun x => [enc x]) = l.map enc := by
  induction l with
  | nil => rfl
  | cons a l ih => rw [List.flatMap_cons, ih]; rfl
end
theorem Reads.grown {w w' : World} {size n g : Nat} {A : Option Addr} {xs : List Value} (h : Reads w w.heap.size size A n xs) (hg : w.grownBy w' (some g)) (hne : ∀ p, A = some p → p.block ≠ g) : Reads w' w'.heap.size size A n xs := by
  refine ⟨h.1, fun h0 => ?_⟩
  obtain ⟨p, hp, hb, hc⟩ := h.2 h0
  refine ⟨p, hp, Nat.lt_of_lt_of_le hb hg.size, fun j u hj => ?_⟩
  have hk : (p.add j).block = p.block := blockAdd p j
  rw [World.cell?_of_block (a := p.add j) (hg.block _ (by rw [hk]; exact hb) (by rw [hk]; exact fun e => hne p hp (Option.some.inj e)))]
  exact hc j u hj
theorem extract_whole {α : Type} {d : Array α} {n : Nat} (h : d.size = n) : d.extract 0 n = d := by subst h; simp
theorem map_val_finRange (n : Nat) : (List.finRange n).map Fin.val = List.range n := by
  apply List.ext_getElem
  · simp
  · intro i h1 h2; simp
set_option maxRecDepth 100000 in
theorem sortO_any {bl : Nat} (q : Nat) (A : Option Addr) (n c : Nat) (es : List Ent) (g cap : Nat) (w : World) (hb : Box w q #[.slice A n c]) (hl : Reads w w.heap.size 6 A n (ents es)) (hA : ∀ p, A = some p → p.block ≠ g) (hq : q ≠ g)
    (h : w.ownsRow bl 3 1 (.slice (some ⟨g, 0, none⟩) n cap) n (ints ((List.range n).map Int.ofNat))) (ht : ∀ e ∈ es, tame e) (hn : 0 < n) (hn2 : n ≤ 1000000) :
    Calls Tryz.prog 26 #[.slice (some ⟨g, 0, none⟩) n cap, .func (.func 27) #[] #[.pointer (some ⟨q, 0, none⟩)]] w fun r w' => r = .returned (.tuple #[]) ∧
      ∃ js : List Nat, js.Perm (List.range n) ∧ (js.Pairwise fun i j => ∀ x y, es[i]? = some x → es[j]? = some y → ¬ aheadE y x) ∧ w'.ownsRow bl 3 1 (.slice (some ⟨g, 0, none⟩) n cap) n (ints (js.map Int.ofNat)) ∧ w.grownBy w' (some g) := by
  have hlen := hl.1
  rw [ents_length] at hlen
  have hle : es.length = n := by omega
  letI : Inhabited (Fin n) := ⟨⟨0, hn⟩⟩
  let enc : Fin n → Value := fun i => .int .i64 (i.val : Int)
  have hge : ∀ i : Fin n, ∃ x, es[i.val]? = some x := fun i => ⟨_, List.getElem?_eq_getElem (by have := i.isLt; omega)⟩
  let ent : Fin n → Ent := fun i => es[i.val]'(by have := i.isLt; omega)
  have hent : ∀ i : Fin n, es[i.val]? = some (ent i) := fun i => List.getElem?_eq_getElem _
  let cf : Fin n → Fin n → Int := fun i j => cmpO (ent i) (ent j)
  have hcf : ∀ i j, ltOf cf i j = decide (aheadE (ent i) (ent j)) := fun i j => by
    unfold ltOf
    rw [decide_eq_decide]
    exact cmpO_neg _ _
  have hO : SWO (ltOf cf) := by
    refine ⟨fun x => ?_, fun x y z h1 h2 => ?_, fun x y z h1 h2 => ?_⟩
    · rw [hcf]; simp [aheadE]
    · rw [hcf] at *; simp only [decide_eq_true_eq] at *; unfold aheadE at *; omega
    · rw [hcf] at *; simp only [decide_eq_false_iff_not] at *; unfold aheadE at *; omega
  rcases h.2 with ⟨hv, h0⟩ | ⟨g', cap', cur, hv, hbb, hh, hnc, hcm, hcs, hct⟩
  · cases hv
  injection hv with e1 e2 e3
  injection e1 with e1
  injection e1 with e1
  subst e1 e3
  have hgw : g < w.heap.size := (Array.getElem?_eq_some_iff.1 hh).1
  have hd : (List.finRange n).flatMap (fun x => [enc x]) = ints ((List.range n).map Int.ofNat) := by
    rw [flat_one, ← map_val_finRange]
    simp [ints, enc]
  have hK : HoldsK (fun x => [enc x]) 1 w g 0 (List.finRange n).toArray := holdsK_of_row (enc := fun x => [enc x]) (k := 1) (l := List.finRange n) (fun _ => rfl) hh (by rw [hd, ← hct, List.length_finRange])
  have hcmp : CmpLays1 Tryz.prog 27 #[.pointer (some ⟨q, 0, none⟩)] enc cf g 0 (List.finRange n).toArray.size w := by
    intro m os dk hs i j
    rw [sortWorld_one]
    have hg := grownBy_sortedK (enc := fun x => [enc x]) (k := 1) (w := w) (g := g) (n := m) (os := os) dk
    exact order1_grow q A n c es i.val j.val (ent i) (ent j) _ (hb.grown hg fun k e => by cases e; exact fun h => hq h.symm) (hl.grown hg hA) i.isLt j.isLt (hent i) (hent j) (ht _ (List.mem_of_getElem? (hent i))) (ht _ (List.mem_of_getElem? (hent j)))
  have hs := Any.slices_SortFunc sortLayI enc (fun _ => rfl) cf hO 27 #[.pointer (some ⟨q, 0, none⟩)] g 0 cap (List.finRange n).toArray w (enters_of Tryz.func27 (by kernel_rfl) rfl) hcmp (holds_one hK) hgw (by simp; omega)
  have hsz : (List.finRange n).toArray.size = n := by simp
  rw [hsz] at hs
  refine hs.mono fun r w' ⟨h1, d', m, os, hp, hso, hw⟩ => ⟨h1, d'.toList.map Fin.val, ?_, ?_, ?_, ?_⟩
  · obtain ⟨p1, _, p3⟩ := hp
    rw [extract_whole (p1.trans hsz), extract_whole hsz] at p3
    have := p3.map Fin.val
    rw [List.toList_toArray, map_val_finRange] at this
    exact this
  · have q1 : d'.size = n := by rw [hp.1, hsz]
    rw [List.pairwise_map, List.pairwise_iff_getElem]
    intro i j hi hj hij x y hx hy
    have := hso i j (Nat.zero_le _) hij (by simpa [q1] using hj)
    rw [hcf, decide_eq_false_iff_not] at this
    simp only [Array.length_toList] at hi hj
    rw [getElem!_pos d' j hj, getElem!_pos d' i hi] at this
    simp only [Array.getElem_toList] at hx hy
    rw [hent] at hx hy
    obtain rfl := Option.some.inj hx
    obtain rfl := Option.some.inj hy
    exact this
  · rw [hw, sortWorld_one]
    have := ownsRow_sortedK (enc := fun x => [enc x]) (k := 1) (fun _ => rfl) (w := w) (base := bl) (g := g) (cap := cap) (m := m) (e := 3) (os := os) (l := List.finRange n) (t := d'.toList) (by rw [Array.length_toList, hp.1]; simp) hbb hh (by simpa using hnc) hcm hcs
    rw [List.length_finRange, flat_one] at this
    rw [show ints ((d'.toList.map Fin.val).map Int.ofNat) = d'.toList.map enc by simp [ints, enc]]
    exact this
  · rw [hw, sortWorld_one]; exact grownBy_sortedK _
end Go.Proofs.YtpoodhhajghaoaaGreatDoor
