/- Merged texts: Q6 Q7 Q8 -/
import Derived.Test.YtihhclhpjgeniaaGreatDoorSB12
namespace Go.Proofs.YtihhclhpjgeniaaGreatDoor
open Go.RowKit Go.Sort
theorem eltAt {w : World} {B : Nat} {A : Option Addr} {m : Nat} {es : List Elt} (h : Reads w B 4 A m (elts es)) {k : Nat} (hk : k < es.length) :
  ∃ ad e, A = some ad ∧ es[k]? = some e ∧ w.cell? (ad.add (k * 4)) = some (.string (mkB e.signs)) ∧
  w.cell? ⟨(ad.add (k * 4)).block, (ad.add (k * 4)).off + 1, none⟩ = some (.string (mkB e.letter)) ∧ w.cell? ⟨(ad.add (k * 4)).block, (ad.add (k * 4)).off + 2, none⟩ = some (.slice e.A e.n e.c) ∧
  w.cell? ⟨(ad.add (k * 4)).block, (ad.add (k * 4)).off + 3, none⟩ = some (.int .i64 (e.times : Int)) := by
 have hl := h.1
 rw [elts_length] at hl
 obtain ⟨ad, e, hb, hc⟩ := h.2 (by omega)
 have g : ∀ i, i < 4 → w.cell? ((ad.add (k * 4)).add i) = (es[k].cells)[i]? := fun i hi => by
  rw [add_of_add]
  have g0 := elts_get hk hi
  cases hx : (es[k].cells)[i]? with
  | none => rw [List.getElem?_eq_none_iff] at hx; simp [Elt.cells] at hx; omega
  | some u => exact hc _ u (g0.trans hx)
 refine ⟨ad, es[k], e, List.getElem?_eq_getElem hk, ?_, ?_, ?_, ?_⟩
 ·have := g 0 (by omega)
  simpa [Elt.cells, add_of_add] using this
 all_goals
  first
  | (have := g 1 (by omega); rw [add_pos _ 1 (by omega)] at this; simpa [Elt.cells] using this)
  | (have := g 2 (by omega); rw [add_pos _ 2 (by omega)] at this; simpa [Elt.cells] using this)
  | (have := g 3 (by omega); rw [add_pos _ 3 (by omega)] at this; simpa [Elt.cells] using this)
theorem ix60 {A : Option Addr} {ad : Addr} {n c k : Nat} (h : A = some ad) (hk : k < n) (w : World) : (Instr.indexAt 328 (.slice A n c) (.int .i64 (k : Int))).run Tryz.prog w = .ok (.pointer (some (ad.add (k * 4)))) w := by
 subst h
 have h0 : (0 : Int) ≤ (k : Int) ∧ (k : Int) < (n : Int) := by omega
 have hs : (sizeOf (Tryz.prog.elem 328)).run Tryz.prog w = .ok 4 w := by kernel_rfl
 rw [run_indexAt_slice w 328 ad n c .i64 k (by kernel_rfl), if_pos h0, hs]
 simp [Result.andThen]
theorem take_get {es : List Elt} {j : Nat} {e : Elt} (h : es[j]? = some e) : es.take (j + 1) = es.take j ++ [e] := take_succ_of h
theorem lenE_take {es : List Elt} {j : Nat} {e : Elt} (h : es[j]? = some e) : lenE (es.take (j + 1)) = lenE (es.take j) + e.times * (e.letter.length + e.L) := by
 rw [take_get h, lenE_append]; rfl
theorem lenE_le (es : List Elt) (j : Nat) : lenE (es.take j) ≤ lenE es := by
 have := lenE_append (es.take j) (es.drop j)
 rw [List.take_append_drop] at this
 omega
def LenC (k : Nat) : Prop := ∀ (No : Nat → Prop) (A : Option Addr) (n c : Nat) (es : List Elt) (w : World), Its w No w.heap.size k A n es → n ≤ 1000000 → lenE es ≤ 1000000000000000000 →
 Calls Tryz.prog 300 #[.slice A n c] w fun r w' => r = .returned (.int .i64 (lenE es : Int)) ∧ Below w.heap.size w w'
set_option maxRecDepth 100000 in
set_option maxHeartbeats 4000000 in
theorem len_zero : LenC 0 := by
 intro No A n c es w hi hn hl
 obtain ⟨rfl, rfl⟩ := hi
 go_enter Tryz.func300, Tryz.ntmps300
 go_wp2_with fail
 go_loopw [3, 8] (fun s i wr => s = .int .i64 0 ∧ i = .int .i64 0 ∧ wr = w) (fun _ _ _ => 0)
 case atStart => exact ⟨rfl, rfl, rfl⟩
 case round =>
  obtain ⟨rfl, rfl, rfl⟩ := hrel
  go_wp2_with fail
  go_ret
  exact ⟨rfl, Below.refl _ _⟩
set_option maxRecDepth 100000 in
set_option maxHeartbeats 4000000 in
theorem len_succ {k : Nat} (IH : LenC k) : LenC (k + 1) := by
 intro No A n c es w hi hn hl
 have hlen := hi.1.len
 rw [elts_length] at hlen
 have HI := Lib.hid hi
 have HLE := Lib.hid (show es.length = n by omega)
 clear hi hlen
 go_enter Tryz.func300, Tryz.ntmps300
 go_wp2_with fail
 go_loopw [3, 8] (fun s i wr => ∃ j : Nat, j ≤ n ∧ i = .int .i64 j ∧ s = .int .i64 (lenE (es.take j) : Int) ∧ Below w.heap.size w wr) (fun _ i _ => n - (intOf i).toNat)
 case atStart => exact ⟨0, by omega, rfl, rfl, Below.refl _ _⟩
 case round =>
  obtain ⟨j, hj, rfl, rfl, hbw⟩ := hrel
  have HBW := Lib.hid hbw
  clear hbw
  by_cases hlt : j < n
  ·obtain ⟨ad, e, e1, he, d0, d1, d2, d3⟩ := eltAt (HI.out.1.below HBW.out) (k := j) (by rw [HLE.out]; exact hlt)
   have X := fun w => ix60 (c := c) e1 hlt w
   obtain ⟨hok, es', hin, hL, _⟩ := HI.out.2.2 e (List.mem_of_getElem? he)
   have HT := Lib.hid (lenE_take he)
   have HTL := Lib.hid (lenE_le es (j + 1))
   have HIN := Lib.hid (hin.below HBW.out)
   have HL := Lib.hid hL
   have HOK := Lib.hid hok
   have hb1 := Box.new wr #[.string (mkB e.signs), .string (mkB e.letter), .slice e.A e.n e.c, .int .i64 (e.times : Int)] 353
   have c0 := hb1.at
   have HB2 := Lib.hid (below_trans' HBW.out (belowA wr (.cells #[.string (mkB e.signs), .string (mkB e.letter), .slice e.A e.n e.c, .int .i64 (e.times : Int)] 353)))
   clear he hin hL hok e1
   obtain ⟨T, hT⟩ : ∃ T, lenE (es.take j) = T := ⟨_, rfl⟩
   rw [hT] at HT ⊢
   have hq0 : e.times ≤ 9 := HOK.out.2.2.1
   by_cases ht : e.times = 0
   ·have HTT : Hid (lenE (es.take (j + 1)) = T) := Lib.hid (by rw [HT.out, ht, Nat.zero_mul]; rfl)
    have t0 : (e.times : Int) = 0 := by omega
    clear HT hT
    generalize (e.times : Int) = tm at d3 c0 hb1 HB2 t0
    subst t0
    go_wp2_with fail
    go_roundw
    case rel => exact ⟨j + 1, by omega, by go_num, by rw [HTT.out], HB2.out⟩
    case measure => simp [intOf]; omega
   ·have t0 : (0 : Int) < (e.times : Int) := by omega
    obtain ⟨q, hq⟩ : ∃ q : Nat, e.times * (e.letter.length + e.L) = q := ⟨_, rfl⟩
    have hql : e.letter.length + e.L ≤ q := by rw [← hq]; exact Nat.le_mul_of_pos_left _ (by omega)
    have hTq : lenE (es.take (j + 1)) = T + q := by rw [HT.out, hq]
    have hTl := HTL.out
    rw [hTq] at hTl
    have HTQ := Lib.hid hTq
    have hqi : (e.times : Int) * ((e.letter.length : Int) + (e.L : Int)) = (q : Int) := by rw [← hq]; push_cast; rfl
    have hn2 : e.n ≤ 1000000 := HOK.out.2.2.2
    have Q0 : Hid (∀ w4, Below (wr.alloc (.cells #[.string (mkB e.signs), .string (mkB e.letter), .slice e.A e.n e.c, .int .i64 (e.times : Int)] 353)).heap.size (wr.alloc (.cells #[.string (mkB e.signs), .string (mkB e.letter), .slice e.A e.n e.c, .int .i64 (e.times : Int)] 353)) w4 → Calls Tryz.prog 300 #[.slice e.A e.n e.c] w4 fun r w' => r = .returned (.int .i64 (e.L : Int)) ∧ Below w4.heap.size w4 w') := Lib.hid fun w4 hb4 => by
     have := IH No e.A e.n e.c es' w4 ((HIN.out.below (belowA _ _)).below hb4) hn2 (by rw [← HL.out]; omega)
     rw [← HL.out] at this
     exact this
    have hsz : (mkB e.letter).size = e.letter.length := size_mk _
    have c1 := hb1.rg
    have wa : IntKind.i64.wrap ((e.letter.length : Int) + (e.L : Int)) = (e.letter.length : Int) + (e.L : Int) := IntWalk.i64_in _ (by omega)
    have wb : IntKind.i64.wrap (q : Int) = (q : Int) := IntWalk.i64_in _ (by omega)
    have wc : IntKind.i64.wrap ((T : Int) + (q : Int)) = (T : Int) + (q : Int) := IntWalk.i64_in _ (by omega)
    clear hTq hTl hql hq hT HT HTL
    go_wp2_with fail
    clear hb1 X d0 d1 d2 d3
    generalize wr.alloc (.cells #[.string (mkB e.signs), .string (mkB e.letter), .slice e.A e.n e.c, .int .i64 (e.times : Int)] 353) = w2 at Q0 c0 c1 HB2 ⊢
    refine wp_region_qb mixed (by kernel_rfl) ?_
    repeat (go_big_quiet_step (first | exact rg_call Q0.out _ _))
    refine wpQuiet_nil ?_
    intro w5 hb5
    have HB5 := Lib.hid (below_trans' HB2.out hb5)
    clear hb5 c0 c1 Q0 HB2 hqi wa wb wc
    go_wp2_with fail
    go_roundw
    case rel => exact ⟨j + 1, by omega, by go_num, by rw [HTQ.out]; push_cast; rfl, HB5.out⟩
    case measure => simp [intOf]; omega
  ·obtain rfl : j = n := by omega
   have HF := Lib.hid (show es.take j = es by rw [← HLE.out]; exact List.take_length)
   go_wp2_with fail
   go_ret
   exact ⟨by rw [HF.out]; rfl, HBW.out⟩
theorem len_all (k : Nat) : LenC k := by
 induction k with
 | zero => exact len_zero
 | succ k ih => exact len_succ ih
end Go.Proofs.YtihhclhpjgeniaaGreatDoor
namespace Go.Proofs.YtihhclhpjgeniaaGreatDoor
open Go.RowKit Go.Sort
theorem isB_belowP {B b : Nat} {bs : List Value} {w w' : World} (h : Lib.IsBuilder 192 5 B b bs w) (hb : Below w.heap.size w w') : Lib.IsBuilder 192 5 B b bs w' := by
 rcases h with h | h
 ·refine .inl ?_
  have hl := h.lt
  obtain ⟨h1, v, h2, h3, h4⟩ := h
  exact ⟨h1, v, (hb.block b hl).trans h2, row_on h3 hb, h4⟩
 ·refine .inr ?_
  have hl := h.lt
  obtain ⟨h1, v, h2, h3, h4⟩ := h
  exact ⟨h1, v, (hb.block b hl).trans h2, row_on h3 hb, h4⟩
theorem isB_newP (w : World) : Lib.IsBuilder 192 5 w.heap.size w.heap.size (Lib.byteCells []) (w.alloc (.cells #[.pointer none, .slice none 0 0] 192)) :=
 .inl ⟨Nat.le_refl _, .slice none 0 0, heap_alloc_new w _, World.ownsRow_nil _ _ _ _, by simp [Value.ownBlock]⟩
theorem byteCells_appendP (a b : List UInt8) : Lib.byteCells a ++ Lib.strCells (mkB b) = Lib.byteCells (a ++ b) := by
 simp [Lib.byteCells, Lib.strCells]
theorem wordE_take {es : List Elt} {j : Nat} {e : Elt} (h : es[j]? = some e) : wordE (es.take (j + 1)) = wordE (es.take j) ++ signsW e.signs (rep e.times (e.letter ++ e.W)) := by
 rw [take_get h, wordE_append]
 simp [wordE]
theorem signsW_nil (ss : List UInt8) : signsW ss [] = [] := List.length_eq_zero_iff.1 (by rw [signsW_length]; rfl)
theorem signsW_drop {S w0 : List UInt8} {m : Nat} (h : m < S.length) : signsW (S.drop m) w0 = signW S[m] (signsW (S.drop (m + 1)) w0) := by
 rw [List.drop_eq_getElem_cons h]
 rfl
theorem repeatL_rep (l : List UInt8) (n : Nat) : Lib.repeatL l n = rep n l := by
 induction n with
 | zero => rfl
 | succ n ih =>
  show l ++ Lib.repeatL l n = _
  rw [ih]
  simp [rep, List.replicate_succ]
def WordC (k : Nat) : Prop := ∀ (No : Nat → Prop) (A : Option Addr) (n c : Nat) (es : List Elt) (w : World), Its w No w.heap.size k A n es → n ≤ 1000000 → lenE es ≤ 60 →
 Calls Tryz.prog 301 #[.slice A n c] w fun r w' => r = .returned (.string (mkB (wordE es))) ∧ Below w.heap.size w w'
set_option maxRecDepth 100000 in
set_option maxHeartbeats 4000000 in
theorem word_zero : WordC 0 := by
 intro No A n c es w hi hn hl
 obtain ⟨rfl, rfl⟩ := hi
 have HB := Lib.hid (isB_newP w)
 have HW := Lib.hid (belowA w (.cells #[.pointer none, .slice none 0 0] 192))
 go_enter Tryz.func301, Tryz.ntmps301
 go_wp2_with fail
 generalize w.alloc (.cells #[.pointer none, .slice none 0 0] 192) = w1 at HB HW ⊢
 go_loopw [10] (fun i wr => i = .int .i64 0 ∧ wr = w1) (fun _ _ => 0)
 case atStart => exact ⟨rfl, rfl⟩
 case round =>
  obtain ⟨rfl, rfl⟩ := hrel
  go_wp2_with fail
  with_reducible refine (Tryz.Builder_String_any w.heap.size w.heap.size [] _ HB.out HW.out.size).mono ?_
  rintro _ w2 ⟨rfl, hb2⟩
  have HB2 := Lib.hid (HW.out.trans hb2)
  clear hb2
  go_wp2_with fail
  go_ret
  exact ⟨rfl, HB2.out⟩
set_option maxRecDepth 100000 in
set_option maxHeartbeats 4000000 in
theorem word_succ {k : Nat} (IH : WordC k) : WordC (k + 1) := by
 intro No A n c es w hi hn hl
 have hlen := hi.1.len
 rw [elts_length] at hlen
 have HI := Lib.hid hi
 have HLE := Lib.hid (show es.length = n by omega)
 clear hi hlen
 have HB := Lib.hid (isB_newP w)
 have HW := Lib.hid (belowA w (.cells #[.pointer none, .slice none 0 0] 192))
 go_enter Tryz.func301, Tryz.ntmps301
 go_wp2_with fail
 generalize w.alloc (.cells #[.pointer none, .slice none 0 0] 192) = w1 at HB HW ⊢
 go_loopw [10] (fun i wr => ∃ j : Nat, j ≤ n ∧ i = .int .i64 j ∧ Lib.IsBuilder 192 5 w.heap.size w.heap.size (Lib.byteCells (wordE (es.take j))) wr ∧ Below w.heap.size w wr) (fun i _ => n - (intOf i).toNat)
 case atStart => exact ⟨0, by omega, rfl, HB.out, HW.out⟩
 case round =>
  obtain ⟨j, hj, rfl, hbb, hbw⟩ := hrel
  have HBW := Lib.hid hbw
  have HBB := Lib.hid hbb
  clear hbw hbb HB HW
  by_cases hlt : j < n
  ·obtain ⟨ad, e, e1, he, d0, d1, d2, d3⟩ := eltAt (HI.out.1.below HBW.out) (k := j) (by rw [HLE.out]; exact hlt)
   have X := fun w => ix60 (c := c) e1 hlt w
   obtain ⟨hok, es', hin, hL, hW⟩ := HI.out.2.2 e (List.mem_of_getElem? he)
   have HT := Lib.hid (wordE_take he)
   have hTL := lenE_take he
   have hTL2 := lenE_le es (j + 1)
   have HIN := Lib.hid (hin.below HBW.out)
   have HWL : Hid (e.W.length = e.L) := Lib.hid (by rw [hL, hW]; exact hin.len)
   have HL := Lib.hid hL
   have HWD := Lib.hid hW
   have HOK := Lib.hid hok
   have hb1 := Box.new wr #[.string (mkB e.signs), .string (mkB e.letter), .slice e.A e.n e.c, .int .i64 (e.times : Int)] 353
   have c0 := hb1.at
   have hnb := belowA wr (.cells #[.string (mkB e.signs), .string (mkB e.letter), .slice e.A e.n e.c, .int .i64 (e.times : Int)] 353)
   have HB2 := Lib.hid (below_trans' HBW.out hnb)
   have HBB2 := Lib.hid (isB_belowP HBB.out hnb)
   have HI2 := Lib.hid (HIN.out.below hnb)
   have hq0 : e.times ≤ 9 := hok.2.2.1
   clear he hin hL hW hok e1 hnb
   by_cases ht : e.times = 0
   ·have HTT : Hid (wordE (es.take (j + 1)) = wordE (es.take j)) := Lib.hid (by rw [HT.out, ht, show rep 0 (e.letter ++ e.W) = [] from rfl, signsW_nil, List.append_nil])
    have t0 : (e.times : Int) = 0 := by omega
    clear hTL hTL2
    generalize (e.times : Int) = tm at d3 c0 hb1 HB2 HBB2 HI2 t0
    subst t0
    go_wp2_with fail
    go_roundw
    case rel => exact ⟨j + 1, by omega, by go_num, by rw [HTT.out]; exact HBB2.out, HB2.out⟩
    case measure => simp [intOf]; omega
   ·have t0 : ((e.times : Int) == 0) = false := by rw [beq_eq_false_iff_ne]; omega
    have hql : e.letter.length + e.L ≤ e.times * (e.letter.length + e.L) := Nat.le_mul_of_pos_left _ (by omega)
    have hmul : e.times * (e.letter.length + e.L) ≤ 60 := by omega
    have hn2 : e.n ≤ 1000000 := HOK.out.2.2.2
    have hLL : e.letter.length + e.L ≤ 60 := by omega
    clear hTL hTL2 hql
    go_wp2_with fail
    clear X d0 d1 d2 d3 c0
    generalize wr.alloc (.cells #[.string (mkB e.signs), .string (mkB e.letter), .slice e.A e.n e.c, .int .i64 (e.times : Int)] 353) = w2 at hb1 HB2 HBB2 HI2 ⊢
    generalize wr.heap.size = Y at hb1 ⊢
    have Q0 : Hid (∀ w4, Below w2.heap.size w2 w4 → Calls Tryz.prog 301 #[.slice e.A e.n e.c] w4 fun r w' => r = .returned (.string (mkB e.W)) ∧ Below w4.heap.size w4 w') := Lib.hid fun w4 hb4 => by
     have := IH No e.A e.n e.c es' w4 (HI2.out.below hb4) hn2 (by rw [← HL.out]; omega)
     rw [← HWD.out] at this
     exact this
    have hs1 : (mkB e.letter).size = e.letter.length := size_mk _
    have hs2 : (mkB e.W).size = e.L := by rw [size_mk, HWL.out]
    have Q1 : Hid (∀ w4, Below w2.heap.size w2 w4 → Calls Tryz.prog 317 #[.string (mkB e.letter ++ mkB e.W), .int .i64 (e.times : Int)] w4 fun r w' => r = .returned (.string (mkB (rep e.times (e.letter ++ e.W)))) ∧ Below w4.heap.size w4 w') := Lib.hid fun w4 hb4 => by
     rw [mk_append]
     refine (Tryz.strings_Repeat (mkB (e.letter ++ e.W)) e.times w4 (by omega) ?_).mono fun r w' ⟨h1, h2⟩ => ⟨?_, h2⟩
     ·rw [size_mk, List.length_append, HWL.out, Nat.mul_comm]; omega
     ·rw [h1, ← repeatL_rep]
    have c1 := hb1.rg
    refine wp_region_qb mixed (by kernel_rfl) ?_
    repeat (go_big_quiet_step (first | exact rg_call Q0.out _ _ | exact rg_call Q1.out _ _))
    refine wpQuiet_nil ?_
    intro w5 hb5
    have HB5 := Lib.hid (below_trans' HB2.out hb5)
    have HBB5 := Lib.hid (isB_belowP HBB2.out hb5)
    have HY5 := Lib.hid (hb1.below hb5)
    have HRL : Hid ((rep e.times (e.letter ++ e.W)).length ≤ 60) := Lib.hid (by rw [rep_length, List.length_append, HWL.out]; exact hmul)
    clear hb5 c1 Q0 Q1 hb1 HB2 HBB2 HI2 hs1 hs2
    have hsg := HOK.out.1
    obtain ⟨w0, hw0⟩ : ∃ w0, rep e.times (e.letter ++ e.W) = w0 := ⟨_, rfl⟩
    rw [hw0] at HT HRL ⊢
    obtain ⟨S, hS⟩ : ∃ S, e.signs = S := ⟨_, rfl⟩
    rw [hS] at HT HY5 hsg
    clear hw0 hS
    have hsz : (mkB S).size = S.length := size_mk S
    have y0 := HY5.out.2
    go_wp2_with fail
    clear y0
    go_loopw [6, 7] (fun x i wq => ∃ m : Nat, m ≤ S.length ∧ i = .int .i64 ((m : Int) - 1) ∧ x = .string (mkB (signsW (S.drop m) w0)) ∧ Below w5.heap.size w5 wq) (fun _ i _ => (intOf i + 1).toNat)
    case atStart => exact ⟨S.length, Nat.le_refl _, by go_num, by rw [List.drop_length]; rfl, Below.refl _ _⟩
    case round =>
     obtain ⟨m, hm, rfl, rfl, hbr⟩ := hrel
     have HBR := Lib.hid hbr
     clear hbr
     have HR1 : Hid ((signsW (S.drop m) w0).length ≤ 60) := Lib.hid (by rw [signsW_length]; exact HRL.out)
     cases m with
     | zero =>
      have HR6 := Lib.hid (below_trans' HB5.out HBR.out)
      have HBB6 := Lib.hid (isB_belowP HBB5.out HBR.out)
      have hl6 : (wordE (es.take j)).length ≤ 60 := by
       have h1 := lenE_le es j
       have h2 := (HI.out).len
       have h3 := congrArg List.length (wordE_append (es.take j) (es.drop j))
       rw [List.take_append_drop, List.length_append, h2] at h3
       omega
      have hr1 := HR1.out
      rw [List.drop_zero] at hr1 ⊢
      go_wp2_with fail
      with_reducible refine (writeString_any w.heap.size w.heap.size (Lib.byteCells (wordE (es.take j))) (mkB (signsW S w0)) _ HBB6.out (by rw [Lib.byteCells_length, size_mk]; omega) HR6.out.size).mono ?_
      rintro _ w7 ⟨rfl, hbb7, hb7, _⟩
      rw [byteCells_appendP, ← HT.out] at hbb7
      have HBB7 : Hid (Lib.IsBuilder 192 5 w.heap.size w.heap.size (Lib.byteCells (wordE (es.take (j + 1)))) w7) := Lib.hid (.inr hbb7)
      have HR7 := Lib.hid (HR6.out.trans hb7)
      clear hbb7 hb7
      go_wp2_with fail
      go_roundw
      case rel => exact ⟨j + 1, by omega, by go_num, HBB7.out, HR7.out⟩
      case measure => simp [intOf]; omega
     | succ m =>
      have hlm : m < S.length := by omega
      have HSD := Lib.hid (signsW_drop (w0 := w0) hlm)
      have y0 := (HY5.out.below HBR.out).2
      have hg : (mkB S)[m]'(by rw [size_mk]; exact hlm) = S[m] := rfl
      have r1 := HR1.out
      obtain ⟨R, hR⟩ : ∃ R, signsW (S.drop (m + 1)) w0 = R := ⟨_, rfl⟩
      rw [hR] at HSD r1 ⊢
      have e5 : ((m + 1 : Nat) : Int) - 1 = (m : Int) := by omega
      rw [e5]
      clear hR HR1
      generalize hcc : S[m] = cc at HSD hg
      by_cases h33 : cc = 33
      ·subst h33
       go_wp2_with fail
       with_reducible refine (inverted_any (mkB R) _ (by rw [size_mk]; omega)).mono ?_
       rintro _ w7 ⟨rfl, hb7⟩
       rw [li_mk]
       have HR7 := Lib.hid (HBR.out.trans (hb7.mono HBR.out.size))
       clear hb7
       go_wp2_with fail
       go_roundw
       case rel => exact ⟨m, by omega, by go_num, by rw [HSD.out]; rfl, HR7.out⟩
       case measure => simp [intOf]
      have g33 : ((cc.toNat : Int) == 33) = false := ne8 (n := 33) h33 (by decide)
      by_cases h126 : cc = 126
      ·subst h126
       go_wp2_with fail
       with_reducible refine (mirrored_any (mkB R) _ (by rw [size_mk]; omega)).mono ?_
       rintro _ w7 ⟨rfl, hb7⟩
       rw [li_mk]
       have HR7 := Lib.hid (HBR.out.trans (hb7.mono HBR.out.size))
       clear hb7
       go_wp2_with fail
       go_roundw
       case rel => exact ⟨m, by omega, by go_num, by rw [HSD.out]; rfl, HR7.out⟩
       case measure => simp [intOf]
      have g126 : ((cc.toNat : Int) == 126) = false := ne8 (n := 126) h126 (by decide)
      by_cases h37 : cc = 37
      ·subst h37
       go_wp2_with fail
       with_reducible refine (flipped_any (mkB R) _ (by rw [size_mk]; omega)).mono ?_
       rintro _ w7 ⟨rfl, hb7⟩
       rw [li_mk]
       have HR7 := Lib.hid (HBR.out.trans (hb7.mono HBR.out.size))
       clear hb7
       go_wp2_with fail
       go_roundw
       case rel => exact ⟨m, by omega, by go_num, by rw [HSD.out]; rfl, HR7.out⟩
       case measure => simp [intOf]
      have g37 : ((cc.toNat : Int) == 37) = false := ne8 (n := 37) h37 (by decide)
      have HSE : Hid (signsW (S.drop m) w0 = R) := Lib.hid (by rw [HSD.out]; unfold signW; rw [if_neg h33, if_neg h126, if_neg h37])
      clear h33 h126 h37 hcc
      go_wp2_with fail
      go_roundw
      case rel => exact ⟨m, by omega, by go_num, by rw [HSE.out], HBR.out⟩
      case measure => simp [intOf]
  ·obtain rfl : j = n := by omega
   have HF := Lib.hid (show es.take j = es by rw [← HLE.out]; exact List.take_length)
   go_wp2_with fail
   with_reducible refine (Tryz.Builder_String_any w.heap.size w.heap.size (wordE (es.take j)) _ HBB.out HBW.out.size).mono ?_
   rintro _ w2 ⟨rfl, hb2⟩
   have HB2 := Lib.hid (HBW.out.trans hb2)
   clear hb2
   go_wp2_with fail
   go_ret
   exact ⟨by rw [HF.out]; rfl, HB2.out⟩
theorem word_all (k : Nat) : WordC k := by
 induction k with
 | zero => exact word_zero
 | succ k ih => exact word_succ ih
end Go.Proofs.YtihhclhpjgeniaaGreatDoor
namespace Go.Proofs.YtihhclhpjgeniaaGreatDoor
open Go.RowKit Go.Sort
theorem pTail_bound {s : List UInt8} {l : Nat} {w : List UInt8} {N : Nat} {K : Nat} (h : l + s.length * N ≤ K * N) : (pTail s l w).2.1 + (pTail s l w).1.length * (9 * N) ≤ K * (9 * N) := by
 have e1 : K * (9 * N) = 9 * (K * N) := by rw [Nat.mul_left_comm]
 have h9 : 9 * (l + s.length * N) ≤ 9 * (K * N) := Nat.mul_le_mul_left 9 h
 rw [Nat.mul_add] at h9
 cases s with
 | nil =>
  show l + 0 * (9 * N) ≤ _
  simp only [List.length_nil, Nat.zero_mul] at h9 ⊢
  omega
 | cons c u =>
  by_cases hc : isDig c = true
  ·rw [pTail_dig hc]
   simp only [isDig, Bool.and_eq_true, decide_eq_true_eq] at hc
   have h1 : (c.toNat - 48) * l ≤ 9 * l := Nat.mul_le_mul_right _ (by omega)
   have h2 : (c :: u).length * N = u.length * N + N := by rw [List.length_cons, Nat.add_mul, Nat.one_mul]
   have h3 : u.length * (9 * N) = 9 * (u.length * N) := by rw [Nat.mul_left_comm]
   rw [h2] at h9
   show (c.toNat - 48) * l + u.length * (9 * N) ≤ _
   omega
  ·have hd : isDig c = false := by simpa using hc
   have : pTail (c :: u) l w = (c :: u, l, w) := pTail_no fun e v h => by rw [← (List.cons.inj h).1]; exact hd
   rw [this]
   have h3 : (c :: u).length * (9 * N) = 9 * ((c :: u).length * N) := by rw [Nat.mul_left_comm]
   show l + (c :: u).length * (9 * N) ≤ _
   omega
theorem pOne_bound {inner : List UInt8 → Option PR} {N : Nat} (hN : 0 < N) (hi : ∀ t r, inner t = some r → r.2.1 + r.1.length * N ≤ t.length * N) {M : Nat} (hM : 9 * N ≤ M ∨ (M = 1 ∧ ∀ t, inner t = none)) {s : List UInt8} {r : PR} (h : pOne inner s = some r) : r.2.1 + r.1.length * M ≤ s.length * M := by
 have hM1 : 1 ≤ M := by rcases hM with h | ⟨h, _⟩ <;> omega
 unfold pOne at h
 have hd := dropWhile_len isSign s
 generalize s.dropWhile isSign = R at h hd
 split at h
 ·cases h
 ·rename_i c t
  have hs := Nat.mul_le_mul_right M hd
  have hcl : (c :: t).length * M = t.length * M + M := by rw [List.length_cons, Nat.add_mul, Nat.one_mul]
  split at h
  ·cases h
   show 1 + t.length * M ≤ _
   omega
  ·split at h
   ·split at h
    ·rename_i u l w hx
     cases h
     rcases hM with hM | ⟨_, hM⟩
     ·have h1 := hi _ _ hx
      have h2 : l + u.length * N ≤ t.length * N := by
       have h3 : (41 :: u).length * N = u.length * N + N := by rw [List.length_cons, Nat.add_mul, Nat.one_mul]
       rw [h3] at h1
       exact Nat.le_trans (by show _ ≤ l + (u.length * N + N); omega) h1
      have h4 := pTail_bound (w := w) h2
      have h5 := pTail_len u l w
      show (pTail u l w).2.1 + (pTail u l w).1.length * M ≤ s.length * M
      have h6 : u.length ≤ t.length := by
       rcases Nat.lt_or_ge t.length u.length with h' | h'
       ·have := Nat.mul_lt_mul_of_pos_right h' hN; omega
       ·exact h'
      obtain ⟨D, hD⟩ : ∃ D, M = 9 * N + D := ⟨M - 9 * N, by omega⟩
      have h7 : (pTail u l w).1.length * D ≤ t.length * D := Nat.mul_le_mul_right _ (by omega)
      rw [hD, Nat.mul_add] 
      have h8 : t.length * (9 * N + D) ≤ s.length * (9 * N + D) := by
       rw [hD] at hs hcl
       omega
      rw [Nat.mul_add] at h8
      omega
     ·rw [hM] at hx; cases hx
    ·cases h
   ·cases h
theorem pItems_bound : ∀ (f d : Nat) (s : List UInt8) (r : PR), pItems f d s = some r → d ≤ 8 → r.2.1 + r.1.length * 9 ^ (8 - d) ≤ s.length * 9 ^ (8 - d)
 | 0, _, _, _, h, _ => by cases h
 | f + 1, d, s, r, h, hd8 => by
  unfold pItems at h
  split at h
  ·cases h; simp
  ·split at h
   ·cases h; simp
   ·split at h
    ·cases h
    ·rename_i c u hne x r1 l1 w1 h1
     have hl : l1 + r1.length * 9 ^ (8 - d) ≤ (c :: u).length * 9 ^ (8 - d) := by
      rcases Nat.lt_or_ge d 8 with hd | hd
      ·refine pOne_bound (N := 9 ^ (8 - (d + 1))) (Nat.pow_pos (by omega)) (fun t r ht => ?_) (.inl ?_) h1
       ·rw [if_pos hd] at ht
        exact pItems_bound f (d + 1) t r ht (by omega)
       ·rw [show 8 - d = 8 - (d + 1) + 1 by omega, Nat.pow_succ, Nat.mul_comm]
        exact Nat.le_refl _
      ·refine pOne_bound (N := 1) (by omega) (fun t r ht => ?_) (.inr ⟨?_, fun t => ?_⟩) h1
       ·rw [if_neg (by omega)] at ht; cases ht
       ·rw [show 8 - d = 0 by omega]
       ·exact if_neg (by omega)
     split at h
     ·cases h
     ·rename_i r2 l2 w2 h2
      cases h
      have := pItems_bound f d r1 _ h2 hd8
      show (l1 + l2) + r2.length * 9 ^ (8 - d) ≤ _
      have h3 : l2 + r2.length * 9 ^ (8 - d) ≤ r1.length * 9 ^ (8 - d) := this
      omega
theorem style_bound {s W : List UInt8} {L : Nat} (h : pItems (s.length + 1) 0 s = some ([], L, W)) (hs : s.length ≤ 4000) : L ≤ 1000000000000000000 := by
 have h1 : L + ([] : List UInt8).length * 9 ^ (8 - 0) ≤ s.length * 9 ^ (8 - 0) := pItems_bound _ _ _ _ h (by omega)
 rw [show 9 ^ (8 - 0) = 43046721 from rfl] at h1
 simp only [List.length_nil, Nat.zero_mul] at h1
 omega
def pStyle (s : List UInt8) : List UInt8 × Int :=
 if 4000 < s.length then ([], 4)
 else match pItems (s.length + 1) 0 s with
  | some ([], L, W) => if 60 < L then ([], 4) else (W, 0)
  | _ => ([], 3)
set_option maxRecDepth 100000 in
set_option maxHeartbeats 4000000 in
theorem parseE_any (s : List UInt8) (w : World) (hs : s.length ≤ 1000000) :
  Calls Tryz.prog 272 #[.string (mkB s)] w fun r w' => r = .returned (.tuple #[.string (mkB (pStyle s).1), .int .i64 (pStyle s).2]) ∧ Below w.heap.size w w' := by
 have hsz : (mkB s).size = s.length := size_mk s
 go_enter Tryz.func272, Tryz.ntmps272
 by_cases h4 : 4000 < s.length
 ·have HE : Hid (pStyle s = ([], 4)) := Lib.hid (by unfold pStyle; rw [if_pos h4])
  go_wp2_with fail
  go_ret2
  exact ⟨by rw [HE.out]; rfl, Below.refl _ _⟩
 ·go_wp2_with fail
  with_reducible refine (parse_any s _ (by omega)).mono ?_
  rintro _ w2 ⟨hb2, ⟨hno, rfl⟩ | ⟨rest, L, W, A, n, c, es, hso, rfl, hits, hL, hW, hn⟩⟩
  ·have HB2 := Lib.hid hb2
   have HE : Hid (pStyle s = ([], 3)) := Lib.hid (by unfold pStyle; rw [if_neg h4, hno])
   clear hno hb2
   go_wp2_with fail
   go_ret2
   exact ⟨by rw [HE.out]; rfl, HB2.out⟩
  ·have HB2 := Lib.hid hb2
   cases rest with
   | cons x u =>
    have HE : Hid (pStyle s = ([], 3)) := Lib.hid (by unfold pStyle; rw [if_neg h4, hso])
    clear hso hb2 hits hL hW hn
    go_wp2_with fail
    go_ret2
    exact ⟨by rw [HE.out]; rfl, HB2.out⟩
   | nil =>
    have hbl := style_bound hso (by omega)
    have HI := Lib.hid hits
    have HSO := Lib.hid hso
    have HL := Lib.hid hL
    have HW := Lib.hid hW
    have hn2 : n ≤ 1000000 := by omega
    clear hso hb2 hits hW
    go_wp2_with fail
    have LC := len_all 9 _ A n c es w2 HI.out hn2 (by omega)
    with_reducible refine LC.mono ?_
    clear LC
    rintro _ w3 ⟨rfl, hb3⟩
    rw [hL]
    have HB3 := Lib.hid (below_trans' HB2.out hb3)
    have HI3 := Lib.hid (HI.out.below hb3)
    clear hb3 hL
    by_cases h60 : 60 < L
    ·have HE : Hid (pStyle s = ([], 4)) := Lib.hid (by unfold pStyle; rw [if_neg h4, HSO.out]; exact if_pos h60)
     go_wp2_with fail
     go_ret2
     exact ⟨by rw [HE.out]; rfl, HB3.out⟩
    ·have HE : Hid (pStyle s = (W, 0)) := Lib.hid (by unfold pStyle; rw [if_neg h4, HSO.out]; exact if_neg h60)
     go_wp2_with fail
     have WC := word_all 9 _ A n c es w3 HI3.out hn2 (by rw [HL.out]; omega)
     with_reducible refine WC.mono ?_
     clear WC
     rintro _ w4 ⟨rfl, hb4⟩
     have HB4 := Lib.hid (below_trans' HB3.out hb4)
     clear hb4
     go_wp2_with fail
     go_ret2
     exact ⟨by rw [HE.out, HW.out]; rfl, HB4.out⟩
end Go.Proofs.YtihhclhpjgeniaaGreatDoor
