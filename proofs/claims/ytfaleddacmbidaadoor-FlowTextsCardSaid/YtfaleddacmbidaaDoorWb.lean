/- Walks: the builder in plain words; numbers written. -/
import Derived.Test.YtfaleddacmbidaaDoorWa
import Derived.Test.YtfaleddacmbidaaDoorTx
import Derived.Test.YtfaleddacmbidaaDoorMd
namespace Go.Proofs.YtfaleddacmbidaaDoor
open Go.RowKit Go.Sort

theorem row_on {bl : Nat} {w w' : World} {e : TypeId} {sz n : Nat} {u : Value} {xs : List Value} (h : w.ownsRow bl e sz u n xs) (hb : Below w.heap.size w w') : w'.ownsRow bl e sz u n xs := by
  refine h.kept (row := none) ⟨hb.os, hb.tape, hb.output, hb.size, fun k hk _ => hb.block k hk⟩ ?_
  cases hv : u.ownBlock with
  | none => exact .inl rfl
  | some k => exact .inr (by simp)
theorem row_mono {w : World} {base base' : Nat} {e : TypeId} {sz n : Nat} {u : Value} {xs : List Value} (h : w.ownsRow base e sz u n xs) (hb : base' ≤ base) : w.ownsRow base' e sz u n xs := by
  refine ⟨h.1, ?_⟩
  rcases h.2 with h0 | ⟨g, cap, cur, h1, h2, h3⟩
  · exact .inl h0
  · exact .inr ⟨g, cap, cur, h1, Nat.le_trans hb h2, h3⟩
theorem appB (a b : List UInt8) : (⟨a.toArray⟩ : ByteArray) ++ (⟨b.toArray⟩ : ByteArray) = ⟨(a ++ b).toArray⟩ := by
  apply ByteArray.ext
  rw [ByteArray.data_append]
  simp
theorem app_list (a b : ByteArray) : (a ++ b).data.toList = a.data.toList ++ b.data.toList := by rw [ByteArray.data_append, Array.toList_append]
abbrev isB (w : World) (B b : Nat) (l : List UInt8) : Prop := Lib.IsBuilder 42 5 B b (Lib.byteCells l) w
theorem isB_below {B b : Nat} {bs : List Value} {w w' : World} (h : Lib.IsBuilder 42 5 B b bs w) (hb : Below w.heap.size w w') : Lib.IsBuilder 42 5 B b bs w' := by
  rcases h with h | h
  · refine .inl ?_
    have hl := h.lt
    obtain ⟨h1, v, h2, h3, h4⟩ := h
    exact ⟨h1, v, (hb.block b hl).trans h2, row_on h3 hb, h4⟩
  · refine .inr ?_
    have hl := h.lt
    obtain ⟨h1, v, h2, h3, h4⟩ := h
    exact ⟨h1, v, (hb.block b hl).trans h2, row_on h3 hb, h4⟩
theorem isB_new (w : World) : isB (w.alloc (.cells #[.pointer none, .slice none 0 0] 42)) w.heap.size w.heap.size [] :=
  .inl ⟨Nat.le_refl _, .slice none 0 0, heap_alloc_new w _, World.ownsRow_nil _ _ _ _, by simp [Value.ownBlock]⟩
theorem byteCells_str (a : List UInt8) (s : ByteArray) : Lib.byteCells a ++ Lib.strCells s = Lib.byteCells (a ++ s.data.toList) := by
  simp [Lib.byteCells, Lib.strCells]
/-- WriteString, in plain words. -/
theorem ws_any (B b : Nat) (l : List UInt8) (s : ByteArray) (w : World) (h : isB w B b l) (hlen : l.length + s.size ≤ 1000000) (hBw : B ≤ w.heap.size) :
    Calls Tryd.prog 14 #[.pointer (some ⟨b, 0, none⟩), .string s] w fun e w' => (∃ n, e = .returned (.tuple #[.int .i64 n, .nilIface])) ∧ isB w' B b (l ++ s.data.toList) ∧ Below B w w' ∧ Lib.OthersKept 5 (some b) w w' :=
  (writeString_any B b (Lib.byteCells l) s w h (by rw [Lib.byteCells_length]; exact hlen) hBw).mono fun e w' ⟨h1, h2, h3, h4⟩ => ⟨⟨_, h1⟩, .inr (by rw [byteCells_str] at h2; exact h2), h3, h4⟩
/-- WriteByte, in plain words. -/
theorem wb_any (B b : Nat) (l : List UInt8) (c : UInt8) (w : World) (h : isB w B b l) (hlen : l.length + 1 ≤ 1000000) (hBw : B ≤ w.heap.size) :
    Calls Tryd.prog 16 #[.pointer (some ⟨b, 0, none⟩), .int .u8 (c.toNat : Int)] w fun e w' => e = .returned .nilIface ∧ isB w' B b (l ++ [c]) ∧ Below B w w' ∧ Lib.OthersKept 5 (some b) w w' :=
  (writeByte_any B b (Lib.byteCells l) (c.toNat : Int) w h (by rw [Lib.byteCells_length]; exact hlen) hBw).mono fun e w' ⟨h1, h2, h3, h4⟩ => ⟨h1, .inr (by
    have : Lib.byteCells l ++ [.int .u8 (c.toNat : Int)] = Lib.byteCells (l ++ [c]) := by simp [Lib.byteCells]
    rw [this] at h2; exact h2), h3, h4⟩
theorem bs_str (B b : Nat) (l : List UInt8) (w : World) (h : isB w B b l) (hBw : B ≤ w.heap.size) :
    Calls Tryd.prog 17 #[.pointer (some ⟨b, 0, none⟩)] w fun e w' => e = .returned (.string ⟨l.toArray⟩) ∧ Below B w w' := Tryd.Builder_String_any B b l w h hBw
/-- What stands in a block. -/
abbrev At (w : World) (b : Nat) (cs : Array Value) (t : TypeId) : Prop := w.heap[b]? = some (.cells cs t (0, 0))
theorem At.below {w w' : World} {b : Nat} {cs : Array Value} {t : TypeId} (h : At w b cs t) (hb : Below w.heap.size w w') : At w' b cs t :=
  (hb.block b (Array.getElem?_eq_some_iff.1 h).1).trans h
theorem At.kept {w w' : World} {b c : Nat} {cs : Array Value} {t : TypeId} (h : At w b cs t) (hk : Lib.OthersKept 5 (some c) w w') (hne : b ≠ c) (ht : t ≠ 5) : At w' b cs t :=
  hk b _ h (fun e => hne (Option.some.inj e)) fun _ _ e => ht (by injection e)
theorem At.box {w : World} {b : Nat} {cs : Array Value} {t : TypeId} (h : At w b cs t) : Box w b cs := ⟨(Array.getElem?_eq_some_iff.1 h).1, fun i => cell_of_row _ _ i cs t (0, 0) h⟩
/-! Numbers. -/
theorem itoa_any (n : Int) (w : World) (h0 : 0 ≤ n) (h1 : n ≤ 99) : Calls Tryd.prog 15 #[.int .i64 n] w fun r w' => r = .returned (.string ⟨(Lib.itoa n).toArray⟩) ∧ w' = w := by
  have := Tryd.strconv_Itoa_small n.toNat (by omega) w
  rw [show ((n.toNat : Nat) : Int) = n by omega] at this
  rw [itoa_small h0 h1, ← decDigits_dec _ (by omega)]
  exact this
theorem dig_cut : ∀ n : Nat, n < 10 → (⟨#[48, 49, 50, 51, 52, 53, 54, 55, 56, 57]⟩ : ByteArray).extract n (n + 1) = ⟨(decL n).toArray⟩ := by decide +kernel
theorem digit_any (n : Nat) (w : World) (h : n < 10) : Calls Tryd.prog 19 #[.int .i64 n] w fun r w' => r = .returned (.string ⟨(decL n).toArray⟩) ∧ w' = w := by
  have hn0 : (0 : Int) ≤ (n : Int) := by omega
  have hn1 : (n : Int) + 1 ≤ 10 := by omega
  have hn2 : (n : Int) < 10 := by omega
  have hn3 : ((n : Int) + 1).toNat = n + 1 := by omega
  have hw : IntKind.i64.wrap ((n : Int) + 1) = (n : Int) + 1 := IntWalk.i64_in _ (by omega)
  have hc := dig_cut n h
  go_enter Tryd.func19, Tryd.ntmps19
  go_wp2_with fail
  go_ret
  exact ⟨rfl, rfl⟩
set_option maxRecDepth 100000 in
theorem digits_any (n : Int) (w : World) (h0 : 0 ≤ n) (h1 : n ≤ 99) : Calls Tryd.prog 19 #[.int .i64 n] w fun r w' => r = .returned (.string ⟨(Lib.itoa n).toArray⟩) ∧ w' = w := by
  rw [itoa_small h0 h1]
  obtain ⟨k, rfl⟩ : ∃ k : Nat, n = (k : Int) := ⟨n.toNat, by omega⟩
  rw [show ((k : Int)).toNat = k by omega]
  by_cases h : k < 10
  · exact digit_any k w h
  have e1 : (k : Int).tdiv 10 = ((k / 10 : Nat) : Int) := by rw [Int.tdiv_eq_ediv_of_nonneg (by omega)]; omega
  have e2 : (k : Int).tmod 10 = ((k % 10 : Nat) : Int) := by rw [Int.tmod_eq_emod_of_nonneg (by omega)]; omega
  have HE : Hid ((⟨(decL (k / 10)).toArray⟩ : ByteArray) ++ (⟨(decL (k % 10)).toArray⟩ : ByteArray) = ⟨(decL k).toArray⟩) := Lib.hid (by
    rw [appB]
    congr 2
    unfold decL
    rw [if_pos (by omega), if_pos (by omega), if_neg (by omega)]
    rfl)
  have l1 := decL_len (k / 10)
  have l2 := decL_len (k % 10)
  have D1 := digit_any (k / 10) w (by omega)
  have D2 := digit_any (k % 10) w (by omega)
  push_cast at D1 D2 e1 e2
  go_enter Tryd.func19, Tryd.ntmps19
  go_wp2_with fail
  with_reducible refine D1.mono ?_
  rintro _ _ ⟨rfl, rfl⟩
  go_wp2_with fail
  with_reducible refine D2.mono ?_
  rintro _ _ ⟨rfl, rfl⟩
  go_wp2_with fail
  rw [HE.out]
  go_ret
  exact ⟨rfl, rfl⟩
end Go.Proofs.YtfaleddacmbidaaDoor
