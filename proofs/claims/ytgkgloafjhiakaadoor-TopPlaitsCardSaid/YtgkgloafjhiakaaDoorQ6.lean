/- Walks: the length of items. -/
import Derived.Test.YtgkgloafjhiakaaDoorQ5
namespace Go.Proofs.YtgkgloafjhiakaaDoor
open Go.RowKit Go.Sort

/-- The cells of an item in a row. -/
theorem eltAt {w : World} {B : Nat} {A : Option Addr} {m : Nat} {es : List Elt} (h : Reads w B 4 A m (elts es)) {k : Nat} (hk : k < es.length) :
    ∃ ad e, A = some ad ∧ es[k]? = some e ∧ w.cell? (ad.add (k * 4)) = some (.string (mkB e.signs)) ∧
    w.cell? ⟨(ad.add (k * 4)).block, (ad.add (k * 4)).off + 1, none⟩ = some (.string (mkB e.letter)) ∧ w.cell? ⟨(ad.add (k * 4)).block, (ad.add (k * 4)).off + 2, none⟩ = some (.slice e.A e.n e.c) ∧
    w.cell? ⟨(ad.add (k * 4)).block, (ad.add (k * 4)).off + 3, none⟩ = some (.int .i64 (e.times : Int)) := by
  have hl := h.1
  rw [elts_length] at hl
  obtain ⟨ad, e, hb, hc⟩ := h.2 (by omega)
  have g : ∀ i, i < 4 → w.cell? ((ad.add (k * 4)).add i) = (es[k].cells)[i]? := fun i hi => by
    rw [add_of_add]
    have g0 := elts_get hk hi
    cases hx : (es[k].cells)[i]? with
    | none => rw [List.getElem?_eq_none_iff] at hx; simp [Elt.cells] at hx; omega
    | some u => exact hc _ u (g0.trans hx)
  refine ⟨ad, es[k], e, List.getElem?_eq_getElem hk, ?_, ?_, ?_, ?_⟩
  · have := g 0 (by omega)
    simpa [Elt.cells, add_of_add] using this
  all_goals
    first
    | (have := g 1 (by omega); rw [add_pos _ 1 (by omega)] at this; simpa [Elt.cells] using this)
    | (have := g 2 (by omega); rw [add_pos _ 2 (by omega)] at this; simpa [Elt.cells] using this)
    | (have := g 3 (by omega); rw [add_pos _ 3 (by omega)] at this; simpa [Elt.cells] using this)
theorem ix60 {A : Option Addr} {ad : Addr} {n c k : Nat} (h : A = some ad) (hk : k < n) (w : World) : (Instr.indexAt 60 (.slice A n c) (.int .i64 (k : Int))).run Tryd.prog w = .ok (.pointer (some (ad.add (k * 4)))) w := by
  subst h
  have h0 : (0 : Int) ≤ (k : Int) ∧ (k : Int) < (n : Int) := by omega
  have hs : (sizeOf (Tryd.prog.elem 60)).run Tryd.prog w = .ok 4 w := by kernel_rfl
  rw [run_indexAt_slice w 60 ad n c .i64 k (by kernel_rfl), if_pos h0, hs]
  simp [Result.andThen]
theorem take_get {es : List Elt} {j : Nat} {e : Elt} (h : es[j]? = some e) : es.take (j + 1) = es.take j ++ [e] := take_succ_of h
theorem lenE_take {es : List Elt} {j : Nat} {e : Elt} (h : es[j]? = some e) : lenE (es.take (j + 1)) = lenE (es.take j) + e.times * (e.letter.length + e.L) := by
  rw [take_get h, lenE_append]; rfl
theorem lenE_le (es : List Elt) (j : Nat) : lenE (es.take j) ≤ lenE es := by
  have := lenE_append (es.take j) (es.drop j)
  rw [List.take_append_drop] at this
  omega
def LenC (k : Nat) : Prop := ∀ (No : Nat → Prop) (A : Option Addr) (n c : Nat) (es : List Elt) (w : World), Its w No w.heap.size k A n es → n ≤ 1000000 → lenE es ≤ 1000000000000000000 →
  Calls Tryd.prog 58 #[.slice A n c] w fun r w' => r = .returned (.int .i64 (lenE es : Int)) ∧ Below w.heap.size w w'
set_option maxRecDepth 100000 in
set_option maxHeartbeats 4000000 in
theorem len_zero : LenC 0 := by
  intro No A n c es w hi hn hl
  obtain ⟨rfl, rfl⟩ := hi
  go_enter Tryd.func58, Tryd.ntmps58
  go_wp2_with fail
  go_loopw [3, 8] (fun s i wr => s = .int .i64 0 ∧ i = .int .i64 0 ∧ wr = w) (fun _ _ _ => 0)
  case atStart => exact ⟨rfl, rfl, rfl⟩
  case round =>
    obtain ⟨rfl, rfl, rfl⟩ := hrel
    go_wp2_with fail
    go_ret
    exact ⟨rfl, Below.refl _ _⟩
set_option maxRecDepth 100000 in
set_option maxHeartbeats 4000000 in
theorem len_succ {k : Nat} (IH : LenC k) : LenC (k + 1) := by
  intro No A n c es w hi hn hl
  have hlen := hi.1.len
  rw [elts_length] at hlen
  have HI := Lib.hid hi
  have HLE := Lib.hid (show es.length = n by omega)
  clear hi hlen
  go_enter Tryd.func58, Tryd.ntmps58
  go_wp2_with fail
  go_loopw [3, 8] (fun s i wr => ∃ j : Nat, j ≤ n ∧ i = .int .i64 j ∧ s = .int .i64 (lenE (es.take j) : Int) ∧ Below w.heap.size w wr) (fun _ i _ => n - (intOf i).toNat)
  case atStart => exact ⟨0, by omega, rfl, rfl, Below.refl _ _⟩
  case round =>
    obtain ⟨j, hj, rfl, rfl, hbw⟩ := hrel
    have HBW := Lib.hid hbw
    clear hbw
    by_cases hlt : j < n
    · obtain ⟨ad, e, e1, he, d0, d1, d2, d3⟩ := eltAt (HI.out.1.below HBW.out) (k := j) (by rw [HLE.out]; exact hlt)
      have X := fun w => ix60 (c := c) e1 hlt w
      obtain ⟨hok, es', hin, hL, _⟩ := HI.out.2.2 e (List.mem_of_getElem? he)
      have HT := Lib.hid (lenE_take he)
      have HTL := Lib.hid (lenE_le es (j + 1))
      have HIN := Lib.hid (hin.below HBW.out)
      have HL := Lib.hid hL
      have HOK := Lib.hid hok
      have hb1 := Box.new wr #[.string (mkB e.signs), .string (mkB e.letter), .slice e.A e.n e.c, .int .i64 (e.times : Int)] 90
      have c0 := hb1.at
      have HB2 := Lib.hid (below_trans' HBW.out (belowA wr (.cells #[.string (mkB e.signs), .string (mkB e.letter), .slice e.A e.n e.c, .int .i64 (e.times : Int)] 90)))
      clear he hin hL hok e1
      obtain ⟨T, hT⟩ : ∃ T, lenE (es.take j) = T := ⟨_, rfl⟩
      rw [hT] at HT ⊢
      have hq0 : e.times ≤ 9 := HOK.out.2.2.1
      by_cases ht : e.times = 0
      · have HTT : Hid (lenE (es.take (j + 1)) = T) := Lib.hid (by rw [HT.out, ht, Nat.zero_mul]; rfl)
        have t0 : (e.times : Int) = 0 := by omega
        clear HT hT
        generalize (e.times : Int) = tm at d3 c0 hb1 HB2 t0
        subst t0
        go_wp2_with fail
        go_roundw
        case rel => exact ⟨j + 1, by omega, by go_num, by rw [HTT.out], HB2.out⟩
        case measure => simp [intOf]; omega
      · have t0 : (0 : Int) < (e.times : Int) := by omega
        obtain ⟨q, hq⟩ : ∃ q : Nat, e.times * (e.letter.length + e.L) = q := ⟨_, rfl⟩
        have hql : e.letter.length + e.L ≤ q := by rw [← hq]; exact Nat.le_mul_of_pos_left _ (by omega)
        have hTq : lenE (es.take (j + 1)) = T + q := by rw [HT.out, hq]
        have hTl := HTL.out
        rw [hTq] at hTl
        have HTQ := Lib.hid hTq
        have hqi : (e.times : Int) * ((e.letter.length : Int) + (e.L : Int)) = (q : Int) := by rw [← hq]; push_cast; rfl
        have hn2 : e.n ≤ 1000000 := HOK.out.2.2.2
        have Q0 : Hid (∀ w4, Below (wr.alloc (.cells #[.string (mkB e.signs), .string (mkB e.letter), .slice e.A e.n e.c, .int .i64 (e.times : Int)] 90)).heap.size (wr.alloc (.cells #[.string (mkB e.signs), .string (mkB e.letter), .slice e.A e.n e.c, .int .i64 (e.times : Int)] 90)) w4 → Calls Tryd.prog 58 #[.slice e.A e.n e.c] w4 fun r w' => r = .returned (.int .i64 (e.L : Int)) ∧ Below w4.heap.size w4 w') := Lib.hid fun w4 hb4 => by
          have := IH No e.A e.n e.c es' w4 ((HIN.out.below (belowA _ _)).below hb4) hn2 (by rw [← HL.out]; omega)
          rw [← HL.out] at this
          exact this
        have hsz : (mkB e.letter).size = e.letter.length := size_mk _
        have c1 := hb1.rg
        have wa : IntKind.i64.wrap ((e.letter.length : Int) + (e.L : Int)) = (e.letter.length : Int) + (e.L : Int) := IntWalk.i64_in _ (by omega)
        have wb : IntKind.i64.wrap (q : Int) = (q : Int) := IntWalk.i64_in _ (by omega)
        have wc : IntKind.i64.wrap ((T : Int) + (q : Int)) = (T : Int) + (q : Int) := IntWalk.i64_in _ (by omega)
        clear hTq hTl hql hq hT HT HTL
        go_wp2_with fail
        clear hb1 X d0 d1 d2 d3
        generalize wr.alloc (.cells #[.string (mkB e.signs), .string (mkB e.letter), .slice e.A e.n e.c, .int .i64 (e.times : Int)] 90) = w2 at Q0 c0 c1 HB2 ⊢
        refine wp_region_qb mixed (by kernel_rfl) ?_
        repeat (go_big_quiet_step (first | exact rg_call Q0.out _ _))
        refine wpQuiet_nil ?_
        intro w5 hb5
        have HB5 := Lib.hid (below_trans' HB2.out hb5)
        clear hb5 c0 c1 Q0 HB2 hqi wa wb wc
        go_wp2_with fail
        go_roundw
        case rel => exact ⟨j + 1, by omega, by go_num, by rw [HTQ.out]; push_cast; rfl, HB5.out⟩
        case measure => simp [intOf]; omega
    · obtain rfl : j = n := by omega
      have HF := Lib.hid (show es.take j = es by rw [← HLE.out]; exact List.take_length)
      go_wp2_with fail
      go_ret
      exact ⟨by rw [HF.out]; rfl, HBW.out⟩
theorem len_all (k : Nat) : LenC k := by
  induction k with
  | zero => exact len_zero
  | succ k ih => exact len_succ ih
end Go.Proofs.YtgkgloafjhiakaaDoor
