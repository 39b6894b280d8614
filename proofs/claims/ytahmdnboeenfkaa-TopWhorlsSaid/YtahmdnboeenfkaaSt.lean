/- The library's sort at edges, at this program; fields that the call itself owns. -/
import Derived.Test.YtahmdnboeenfkaaSh
import Derived.Test.YtahmdnboeenfkaaSk
import Derived.Test.YtahmdnboeenfkaaW2
import Derived.Test.YtahmdnboeenfkaaCp
namespace Go.Proofs.Ytahmdnboeenfkaa
open Go.RowKit Go.Sort Go.Lib

theorem cmpE_grow (a b : Edg) (w : World) :
    Calls Try.prog 58 #[eval_ a, eval_ b] w fun r w' => r = .returned (.int .i64 (cmpE a b)) ∧ ∃ q os', w' = grow (w.drewN q) os' := by
  go_enter Try.func58, Try.ntmps58
  dsimp only [eval_]
  go_wp2_with fail
  refine wp_gen (fun w1 => Box w1 w.heap.size #[.int .i64 a.1, .int .i64 a.2.1, .int .i64 a.2.2] ∧ Box w1 (w.heap.size + 1) #[.int .i64 b.1, .int .i64 b.2.1, .int .i64 b.2.2] ∧ Hid (∃ os, w1 = grow w os)) ⟨(Box.new _ _ _).alloc _, Box.new2 _ _ _ _ _, Lib.hid ⟨_, by rw [alloc_eq_grow, alloc_eq_grow, grow_grow]⟩⟩ ?_
  rintro w1 ⟨b0, b1, hg⟩
  have c0 := b0.at
  have c1 := b1.at
  go_region_held3 (fun w' => (∀ i, w'.cell? ⟨w.heap.size, i, none⟩ = (#[.int .i64 a.1, .int .i64 a.2.1, .int .i64 a.2.2] : Array Value)[i]?) ∧ (∀ i, w'.cell? ⟨w.heap.size + 1, i, none⟩ = (#[.int .i64 b.1, .int .i64 b.2.1, .int .i64 b.2.2] : Array Value)[i]?)) (first | exact ⟨c0, c1⟩ | exact ⟨(b0.alloc _).at, (b1.alloc _).at⟩)
    (first | (go_at_call 93; refine (cmpI_any _ _ _).mono ?_; rintro e w' ⟨rfl, rfl⟩) | (go_at_call 92; refine (or_any _ 3 3 [cmpI a.1 b.1, cmpI a.2.1 b.2.1, cmpI a.2.2 b.2.2] _ ((reads_new w1 (ints [cmpI a.1 b.1, cmpI a.2.1 b.2.1, cmpI a.2.2 b.2.2]) 3 1 3 rfl).drew) (by omega)).mono ?_; rintro e w' ⟨rfl, rfl⟩))
  go_wp2
  go_ret
  refine ⟨rfl, 1, ?_⟩
  obtain ⟨os, rfl⟩ := hg.out
  exact ⟨_, by rw [alloc_eq_grow, grow_grow, drew_grow]; rfl⟩

theorem ltOf_cmpE (x y : Edg) : ltOf cmpE x y = decide (ltE x y) := by
  unfold ltOf
  rw [decide_eq_decide]
  exact cmpE_neg x y
theorem swoE : SWO (ltOf cmpE) where
  irrefl x := by rw [ltOf_cmpE]; simp [ltE_irrefl]
  trans x y z h1 h2 := by rw [ltOf_cmpE] at *; simp at *; exact ltE_trans h1 h2
  ntrans x y z h1 h2 := by
    rw [ltOf_cmpE] at *
    simp at *
    intro h3
    rcases ltE_total x y with h | h | h
    · exact h1 h
    · subst h; exact h2 h3
    · exact h2 (ltE_trans h h3)
theorem totE : ∀ x y, (ltOf cmpE) x y = false → (ltOf cmpE) y x = false → x = y := fun x y h1 h2 => by
  rw [ltOf_cmpE] at *
  simp at *
  rcases ltE_total x y with h | h | h
  · exact absurd h h1
  · exact h
  · exact absurd h h2

/-- The edges in ascending order. -/
def sortE (es : List Edg) : List Edg := es.mergeSort fun x y => !ltOf cmpE y x
theorem sortE_length (es : List Edg) : (sortE es).length = es.length := by unfold sortE; exact List.length_mergeSort _
theorem sortE_perm (es : List Edg) : (sortE es).Perm es := List.mergeSort_perm _ _
theorem sortE_le (es : List Edg) : (sortE es).Pairwise fun x y => ¬ ltE y x := by
  have h := List.pairwise_mergeSort (le := fun x y : Edg => !ltOf cmpE y x) (fun a b c h1 h2 => by
    simp [ltOf_cmpE] at *
    intro h3
    rcases ltE_total a b with h | h | h
    · exact h2 (ltE_trans h3 h)
    · subst h; exact h2 h3
    · exact h1 h) (fun a b => by
    simp [ltOf_cmpE]
    rcases ltE_total a b with h | h | h
    · exact .inl (ltE_asymm h)
    · subst h; exact .inl (ltE_irrefl _)
    · exact .inr (ltE_asymm h)) es
  exact h.imp fun h => by simpa [ltOf_cmpE] using h
theorem sortE_of {es : List Edg} (h : es.Pairwise fun x y => ¬ ltE y x) : sortE es = es := by
  unfold sortE
  exact List.mergeSort_of_pairwise (h.imp fun h => by simpa [ltOf_cmpE] using h)
theorem sortE_of_lt {es : List Edg} (h : es.Pairwise ltE) : sortE es = es := sortE_of (h.imp fun h => ltE_asymm h)

theorem isAgg33 : ∀ w, (isAgg 33).run Try.prog w = .ok true w := fun _ => by kernel_rfl
theorem sizeOf33 : ∀ w, (Go.sizeOf 33).run Try.prog w = .ok 3 w := fun _ => by kernel_rfl
theorem sortE_none (A : Option Addr) (c : Nat) (w : World) :
    Calls Try.prog 96 #[.slice A 0 c, .func (.func 58) #[] #[]] w fun r w' => r = .returned (.tuple #[]) ∧ w' = w :=
  AnyF.slices_SortFunc_none sortLay A c _ w
theorem sortE_any {bl : Nat} (A : Option Addr) (n c : Nat) (es : List Edg) (w : World) (h : w.ownsRow bl 33 3 (.slice A n c) n (edgs es)) (hn : n ≤ 1000000) :
    Calls Try.prog 96 #[.slice A n c, .func (.func 58) #[] #[]] w fun r w' => r = .returned (.tuple #[]) ∧ w'.ownsRow bl 33 3 (.slice A n c) n (edgs (sortE es)) ∧ w.grownBy w' (Value.slice A n c).ownBlock := by
  have hl := h.1
  rw [edgs_length] at hl
  have hle : es.length = n := by omega
  rcases h.2 with ⟨hv, h0⟩ | ⟨g, cap, cur, hv, hb, hh, hnc, hcm, hcs, hct⟩
  · injection hv with e1 e2 e3
    subst e1 h0 e3
    obtain rfl : es = [] := List.eq_nil_of_length_eq_zero hle
    exact (sortE_none none 0 w).mono fun r w' ⟨h1, h2⟩ => ⟨h1, by rw [h2, show sortE [] = [] by simp [sortE]]; exact h, by rw [h2]; exact ⟨rfl, rfl, rfl, Nat.le_refl _, fun _ _ _ => rfl⟩⟩
  · injection hv with e1 e2 e3
    subst e1 e3
    have hH : HoldsK ecells 3 w g 0 es.toArray := holdsK_of_row (enc := ecells) (k := 3) (fun _ => rfl) hh (by rw [hle]; exact hct)
    have hg : g < w.heap.size := (Array.getElem?_eq_some_iff.1 hh).1
    have hs := AnyQ.slices_SortFunc_total sortLay 3 isAgg33 sizeOf33 ecells (fun _ => rfl) (fun x v hv => by simp [ecells] at hv; rcases hv with rfl | rfl | rfl <;> rfl) cmpE swoE 58 #[] g 0 c es.toArray w
      (enters_of Try.func58 (by kernel_rfl) rfl) (fun _ _ _ _ x y => cmpE_grow x y _) hH hg (by simp; omega) totE
    have hsz : es.toArray.size = n := by simp [hle]
    rw [hsz] at hs
    refine hs.mono fun r w' ⟨h1, m, os, hw⟩ => ⟨h1, ?_, ?_⟩
    · rw [hw]
      have := ownsRow_sortedK (enc := ecells) (k := 3) (fun _ => rfl) (w := w) (base := bl) (g := g) (cap := c) (m := m) (e := 33) (os := os) (l := es) (t := sortE es) (sortE_length es) hb hh (by omega) hcm hcs
      rw [hle] at this
      exact this
    · rw [hw]; exact grownBy_sortedK _
end Go.Proofs.Ytahmdnboeenfkaa
