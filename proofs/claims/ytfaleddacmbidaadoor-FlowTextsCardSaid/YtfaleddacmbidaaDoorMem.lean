/- Words for memory: which slice values read as which lists of cells, and in which later worlds they still do. -/
import Derived.WalkKit
import Derived.WalkSpells
import Derived.Below
import Derived.Laws.OwnMore
import Derived.Deep.AppendLies
import Derived.Deep.Draws
import Derived.Deep.OwnRows
import Derived.Laws.Rows
import Derived.Laws.AppendOwn
import Derived.Maps.AppendAt
import Derived.RegionTactic
import Derived.OwnWalk
import Derived.Lib.Hide
import Derived.Lib.QuietBelow
import Derived.Deep.QuietTactic
import Derived.BigQuiet
import Derived.ChangeSame
import Derived.Laws.MakeOwn
import Derived.Laws.Entries
import Derived.Deep.Light
import Derived.Deep.RegionHeld3
import Derived.StillTailTactics
import Derived.Deep.DeepFit
import Derived.Deep.DeepCutAuto
namespace Go.Proofs.YtfaleddacmbidaaDoor
open Go.RowKit

theorem add_of_add (p : Addr) (i j : Nat) : (p.add i).add j = p.add (i + j) := by
  rcases Nat.eq_zero_or_pos j with rfl | hj
  · rfl
  rcases Nat.eq_zero_or_pos i with rfl | hi
  · rw [Nat.zero_add]; rfl
  have h1 : i ≠ 0 := by omega
  have h2 : j ≠ 0 := by omega
  have h3 : i + j ≠ 0 := by omega
  simp only [Addr.add, h1, h2, h3, if_false, Nat.add_assoc]
theorem blockAdd (p : Addr) (i : Nat) : (p.add i).block = p.block := by
  simp only [Addr.add]
  split <;> rfl

/-- The slice value '.slice A n c' holds n elements of so many cells each; the cells are xs; they lie below block B. -/
structure Reads (w : World) (B size : Nat) (A : Option Addr) (n : Nat) (xs : List Value) : Prop where
  len : xs.length = n * size
  look : 0 < n → ∃ p, A = some p ∧ p.block < B ∧ ∀ j u, xs[j]? = some u → w.cell? (p.add j) = some u

namespace Reads
variable {w w' : World} {B B' size n : Nat} {A : Option Addr} {xs : List Value}
theorem nil : Reads w B size A 0 [] := ⟨by simp, fun h => by omega⟩
/-- As long as the blocks below B are as they were. -/
theorem kept (h : Reads w B size A n xs) (hk : ∀ p : Addr, p.block < B → w'.cell? p = w.cell? p) : Reads w' B size A n xs := by
  refine ⟨h.len, fun h0 => ?_⟩
  obtain ⟨p, hp, hB, hc⟩ := h.look h0
  refine ⟨p, hp, hB, fun j u hj => ?_⟩
  rw [hk _ (by rw [blockAdd]; exact hB)]
  exact hc j u hj
theorem more (h : Reads w B size A n xs) (hB : B ≤ B') : Reads w B' size A n xs := by
  refine ⟨h.len, fun h0 => ?_⟩
  obtain ⟨p, hp, hlt, hc⟩ := h.look h0
  exact ⟨p, hp, Nat.lt_of_lt_of_le hlt hB, hc⟩
theorem below (h : Reads w B size A n xs) (hb : Below B w w') : Reads w' B size A n xs := kept h fun _ hp => hb.cell hp
/-- In a world that has only grown. -/
theorem on (h : Reads w w.heap.size size A n xs) (hb : Below w.heap.size w w') : Reads w' w'.heap.size size A n xs := (h.below hb).more hb.size
theorem drew (h : Reads w B size A n xs) : Reads w.drew B size A n xs := h.kept fun _ _ => rfl
theorem drewN (h : Reads w B size A n xs) (k : Nat) : Reads (w.drewN k) B size A n xs := h.kept fun _ _ => rfl
/-- What the call's own row holds, as a reading. -/
theorem of_own {base : Nat} {e : TypeId} {c : Nat} (h : w.ownsRow base e size (.slice A n c) n xs) : Reads w w.heap.size size A n xs := by
  refine ⟨h.1, fun h0 => ?_⟩
  obtain ⟨g, cap, hv, _, hlt⟩ := h.form h0
  obtain ⟨rfl, _, _⟩ : A = some ⟨g, 0, none⟩ ∧ n = n ∧ c = cap := by injection hv with e1 e2 e3; exact ⟨e1, rfl, e3⟩
  exact ⟨⟨g, 0, none⟩, rfl, hlt, h.cells rfl⟩
/-- A part of a slice, from element k on (the model keeps the old address at the capacity's end). -/
theorem cut (h : Reads w B size A n xs) {k cap : Nat} (hk : k ≤ n) (hc : n ≤ cap) :
    Reads w B size (if cap = k then A else A.map (·.add (k * size))) (n - k) (xs.drop (k * size)) := by
  constructor
  · simp [h.len, Nat.sub_mul]
  · intro h0
    obtain ⟨p, rfl, hB, hcell⟩ := h.look (by omega)
    have hne : ¬ cap = k := by omega
    simp only [hne, if_false, Option.map_some]
    refine ⟨_, rfl, by rw [blockAdd]; exact hB, fun j u hj => ?_⟩
    rw [List.getElem?_drop] at hj
    rw [add_of_add]
    exact hcell _ _ hj
/-- The first k elements. -/
theorem take (h : Reads w B size A n xs) {k : Nat} (hk : k ≤ n) : Reads w B size A k (xs.take (k * size)) := by
  constructor
  · rw [List.length_take, h.len]; exact Nat.min_eq_left (Nat.mul_le_mul_right _ hk)
  · intro h0
    obtain ⟨p, hp, hB, hcell⟩ := h.look (by omega)
    refine ⟨p, hp, hB, fun j u hj => hcell j u ?_⟩
    rw [List.getElem?_take] at hj
    split at hj
    · exact hj
    · cases hj
end Reads
end Go.Proofs.YtfaleddacmbidaaDoor
