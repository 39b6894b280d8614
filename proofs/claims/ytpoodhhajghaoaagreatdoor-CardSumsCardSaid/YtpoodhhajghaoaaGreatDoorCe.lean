/- Entries: as plain data, as cells, in rows. -/
import Derived.Test.YtpoodhhajghaoaaGreatDoorCa
namespace Go.Proofs.YtpoodhhajghaoaaGreatDoor
open Go.RowKit Go.Sort

/-- An entry: place, number, what it has seen, text. -/
abbrev Ent := Int × Int × (Int × Int × Int) × ByteArray
def Ent.pl (e : Ent) : Int := e.1
def Ent.sq (e : Ent) : Int := e.2.1
def Ent.tx (e : Ent) : ByteArray := e.2.2.2
def ecells (e : Ent) : List Value := [.int .i64 e.1, .int .i64 e.2.1, .int .i64 e.2.2.1.1, .int .i64 e.2.2.1.2.1, .int .i64 e.2.2.1.2.2, .string e.2.2.2]
abbrev eval_ (e : Ent) : Value := .agg #[.int .i64 e.1, .int .i64 e.2.1, .int .i64 e.2.2.1.1, .int .i64 e.2.2.1.2.1, .int .i64 e.2.2.1.2.2, .string e.2.2.2]
def ents (es : List Ent) : List Value := es.flatMap ecells
theorem ents_length (es : List Ent) : (ents es).length = es.length * 6 := by
  induction es with
  | nil => rfl
  | cons e l ih =>
    show (ecells e ++ ents l).length = _
    rw [List.length_append, ih]; simp [ecells]; omega
theorem ents_append (a b : List Ent) : ents (a ++ b) = ents a ++ ents b := by simp [ents]
theorem ents_one (es : List Ent) : ∀ u ∈ ents es, u.oneCell' = true := by
  intro u hu
  simp only [ents, List.mem_flatMap, ecells, List.mem_cons, List.not_mem_nil, or_false] at hu
  obtain ⟨e, _, rfl | rfl | rfl | rfl | rfl | rfl⟩ := hu <;> rfl
theorem ents_get {es : List Ent} {k i : Nat} (h : k < es.length) (hi : i < 6) : (ents es)[k * 6 + i]? = (ecells es[k])[i]? := by
  induction es generalizing k with
  | nil => simp at h
  | cons e l ih =>
    have hl : (ecells e).length = 6 := rfl
    show (ecells e ++ ents l)[k * 6 + i]? = _
    cases k with
    | zero => rw [List.getElem?_append_left (by omega)]; simp
    | succ k =>
      have := ih (k := k) (by simpa using h)
      rw [List.getElem?_append_right (by omega), hl, show (k + 1) * 6 + i - 6 = k * 6 + i by omega]
      simpa using this
/-- The cells of an element. -/
theorem eat {w : World} {B : Nat} {A : Option Addr} {m : Nat} {es : List Ent} (h : Reads w B 6 A m (ents es)) {k : Nat} (hk : k < es.length) :
    ∃ ad e, A = some ad ∧ ad.block < B ∧ es[k]? = some e ∧ w.cell? (ad.add (k * 6)) = some (.int .i64 e.1) ∧
    w.cell? ⟨(ad.add (k * 6)).block, (ad.add (k * 6)).off + 1, none⟩ = some (.int .i64 e.2.1) ∧ w.cell? ⟨(ad.add (k * 6)).block, (ad.add (k * 6)).off + 2, none⟩ = some (.int .i64 e.2.2.1.1) ∧
    w.cell? ⟨(ad.add (k * 6)).block, (ad.add (k * 6)).off + 3, none⟩ = some (.int .i64 e.2.2.1.2.1) ∧ w.cell? ⟨(ad.add (k * 6)).block, (ad.add (k * 6)).off + 4, none⟩ = some (.int .i64 e.2.2.1.2.2) ∧
    w.cell? ⟨(ad.add (k * 6)).block, (ad.add (k * 6)).off + 5, none⟩ = some (.string e.2.2.2) := by
  have hl := h.1
  rw [ents_length] at hl
  obtain ⟨ad, e, hb, hc⟩ := h.2 (by omega)
  have g : ∀ i, i < 6 → w.cell? ((ad.add (k * 6)).add i) = (ecells es[k])[i]? := fun i hi => by
    rw [add_of_add]
    have g0 := ents_get hk hi
    cases hx : (ecells es[k])[i]? with
    | none => rw [List.getElem?_eq_none_iff] at hx; simp [ecells] at hx; omega
    | some u => exact hc _ u (g0.trans hx)
  refine ⟨ad, es[k], e, hb, List.getElem?_eq_getElem hk, ?_, ?_, ?_, ?_, ?_, ?_⟩
  · have := g 0 (by omega)
    simpa [ecells, add_of_add] using this
  all_goals
    first
    | (have := g 1 (by omega); rw [add_pos _ 1 (by omega)] at this; simpa [ecells] using this)
    | (have := g 2 (by omega); rw [add_pos _ 2 (by omega)] at this; simpa [ecells] using this)
    | (have := g 3 (by omega); rw [add_pos _ 3 (by omega)] at this; simpa [ecells] using this)
    | (have := g 4 (by omega); rw [add_pos _ 4 (by omega)] at this; simpa [ecells] using this)
    | (have := g 5 (by omega); rw [add_pos _ 5 (by omega)] at this; simpa [ecells] using this)
theorem info53 : (Tryz.prog.info? 38).map (fun i => (i.zero, i.size)) = some (some (.agg #[.int .i64 0, .int .i64 0, .int .i64 0, .int .i64 0, .int .i64 0, .string ⟨#[]⟩]), 6) := by kernel_rfl
theorem ix22 {A : Option Addr} {ad : Addr} {n c k : Nat} (h : A = some ad) (hk : k < n) (w : World) : (Instr.indexAt 22 (.slice A n c) (.int .i64 (k : Int))).run Tryz.prog w = .ok (.pointer (some (ad.add (k * 6)))) w := by
  subst h
  have h0 : (0 : Int) ≤ (k : Int) ∧ (k : Int) < (n : Int) := by omega
  have hs : (sizeOf (Tryz.prog.elem 22)).run Tryz.prog w = .ok 6 w := by kernel_rfl
  rw [run_indexAt_slice w 22 ad n c .i64 k (by kernel_rfl), if_pos h0, hs]
  simp [Result.andThen]
end Go.Proofs.YtpoodhhajghaoaaGreatDoor
