/- Merged texts: Ka Fa Pa P1 Ra P2 -/
import Derived.Test.YtihhclhpjgeniaaGreatDoorSB1
import Derived.Test.YtihhclhpjgeniaaGreatDoorSB2
import Derived.Test.YtihhclhpjgeniaaGreatDoorSB3
import Derived.Test.YtihhclhpjgeniaaGreatDoorSB7
import Derived.Test.YtihhclhpjgeniaaGreatDoorSB8
import Derived.Test.YtihhclhpjgeniaaGreatDoorProg
import Derived.Laws.Runes
import Derived.Laws.RangeAny
import Derived.Laws.Concat
import Derived.Laws.Strings
import Derived.Laws.BytesString
import Derived.Lib.OthersKept
namespace Go.Proofs.YtihhclhpjgeniaaGreatDoor
open Go.RowKit Go.Sort
section
variable {α : Type} {f : α → List Value} {sz : Nat}
theorem flat_len (hf : ∀ a, (f a).length = sz) (l : List α) : (l.flatMap f).length = l.length * sz := by
 induction l with
 | nil => simp
 | cons a l ih => rw [List.flatMap_cons, List.length_append, hf, ih, List.length_cons, Nat.add_mul, Nat.one_mul, Nat.add_comm]
theorem flat_at (hf : ∀ a, (f a).length = sz) {l : List α} {i : Nat} {a : α} (h : l[i]? = some a) {j : Nat} (hj : j < sz) : (l.flatMap f)[i * sz + j]? = (f a)[j]? := by
 induction l generalizing i with
 | nil => simp at h
 | cons b l ih =>
  rw [List.flatMap_cons]
  cases i with
  | zero =>
   simp only [List.getElem?_cons_zero, Option.some.injEq] at h
   subst h
   rw [Nat.zero_mul, Nat.zero_add, List.getElem?_append_left (by rw [hf]; exact hj)]
  | succ i =>
   simp only [List.getElem?_cons_succ] at h
   rw [List.getElem?_append_right (by rw [hf, Nat.add_mul]; omega), hf, show (i + 1) * sz + j - sz = i * sz + j by rw [Nat.add_mul]; omega]
   exact ih h
end
def ovr (xs : List Value) : Nat → List Value → List Value
 | _, [] => xs
 | o, v :: vs => ovr (xs.set o v) (o + 1) vs
theorem ovr_left (vs : List Value) : ∀ (xs ys : List Value) (o : Nat), o + vs.length ≤ xs.length → ovr (xs ++ ys) o vs = ovr xs o vs ++ ys := by
 induction vs with
 | nil => intro xs ys o _; rfl
 | cons v vs ih =>
  intro xs ys o h
  simp only [List.length_cons] at h
  simp only [ovr]
  rw [List.set_append_left _ _ (by omega), ih _ _ _ (by simp; omega)]
theorem ovr_right (vs : List Value) : ∀ (xs ys : List Value) (o : Nat), ovr (xs ++ ys) (xs.length + o) vs = xs ++ ovr ys o vs := by
 induction vs with
 | nil => intro xs ys o; rfl
 | cons v vs ih =>
  intro xs ys o
  simp only [ovr]
  rw [List.set_append_right _ _ (by omega), Nat.add_sub_cancel_left, Nat.add_assoc, ih]
theorem flat_ovr {α : Type} {f : α → List Value} {sz : Nat} (hf : ∀ a, (f a).length = sz) {l : List α} {i : Nat} {a b : α} (h : l[i]? = some a) {j : Nat} {vs : List Value} (hj : j + vs.length ≤ sz) (hb : f b = ovr (f a) j vs) :
  ovr (l.flatMap f) (i * sz + j) vs = (l.set i b).flatMap f := by
 induction l generalizing i with
 | nil => simp at h
 | cons c l ih =>
  rw [List.flatMap_cons]
  cases i with
  | zero =>
   simp only [List.getElem?_cons_zero, Option.some.injEq] at h
   subst h
   rw [Nat.zero_mul, Nat.zero_add, ovr_left _ _ _ _ (by rw [hf]; exact hj), List.set_cons_zero, List.flatMap_cons, hb]
  | succ i =>
   simp only [List.getElem?_cons_succ] at h
   rw [show (i + 1) * sz + j = (f c).length + (i * sz + j) by rw [hf, Nat.add_mul]; omega, ovr_right, ih h, List.set_cons_succ, List.flatMap_cons]
section
variable {w : World} {base g n cap : Nat} {e : TypeId} {sz : Nat} {xs : List Value}
theorem own_sets (vs : List Value) : ∀ (o : Nat) (w : World) (xs : List Value), w.ownsRow base e sz (.slice (some ⟨g, 0, none⟩) n cap) n xs →
  (w.setCells g o vs).ownsRow base e sz (.slice (some ⟨g, 0, none⟩) n cap) n (ovr xs o vs) ∧ w.grownBy (w.setCells g o vs) (some g) := by
 induction vs with
 | nil => exact fun o w xs h => ⟨h, ⟨rfl, rfl, rfl, Nat.le_refl _, fun _ _ _ => rfl⟩⟩
 | cons v vs ih =>
  intro o w xs h
  obtain ⟨h1, h2⟩ := h.stored o v
  obtain ⟨h3, h4⟩ := ih (o + 1) _ _ h1
  refine ⟨h3, ⟨h4.os.trans h2.os, h4.tape.trans h2.tape, h4.output.trans h2.output, Nat.le_trans h2.size h4.size, fun k hk hne => (h4.block k (Nat.lt_of_lt_of_le hk h2.size) hne).trans (h2.block k hk hne)⟩⟩
variable {α : Type} {f : α → List Value} {l : List α}
theorem own_n (hf : ∀ a, (f a).length = sz) (hz : 0 < sz) {v : Value} (h : w.ownsRow base e sz v n (l.flatMap f)) : n = l.length := by
 have := h.1
 rw [flat_len hf] at this
 exact (Nat.eq_of_mul_eq_mul_right hz this).symm
theorem own_cell (hf : ∀ a, (f a).length = sz) (hz : 0 < sz) (h : w.ownsRow base e sz (.slice (some ⟨g, 0, none⟩) n cap) n (l.flatMap f)) {i : Nat} {a : α} (hi : l[i]? = some a) {j : Nat} (hj : j < sz) : w.cell? ⟨g, i * sz + j, none⟩ = (f a)[j]? := by
 obtain rfl := own_n hf hz h
 have hl : i < l.length := (List.getElem?_eq_some_iff.1 hi).1
 have hlt : i * sz + j < l.length * sz := by
  have := Nat.mul_le_mul_right sz (show i + 1 ≤ l.length by omega)
  rw [Nat.add_mul] at this; omega
 rw [h.cellAt _ hlt, flat_at hf hi hj]
theorem own_put (hf : ∀ a, (f a).length = sz) (_hz : 0 < sz) (h : w.ownsRow base e sz (.slice (some ⟨g, 0, none⟩) n cap) n (l.flatMap f)) {i : Nat} {a b : α} (hi : l[i]? = some a) {j : Nat} {vs : List Value} (hj : j + vs.length ≤ sz) (hb : f b = ovr (f a) j vs) :
  (w.setCells g (i * sz + j) vs).ownsRow base e sz (.slice (some ⟨g, 0, none⟩) n cap) n ((l.set i b).flatMap f) ∧ w.grownBy (w.setCells g (i * sz + j) vs) (some g) := by
 have := own_sets vs (i * sz + j) w _ h
 rwa [flat_ovr hf hi hj hb] at this
end
theorem own_form {w : World} {base e sz n : Nat} {A : Option Addr} {c : Nat} {xs : List Value} (h : w.ownsRow base e sz (.slice A n c) n xs) (hn : 0 < n) : ∃ g, A = some ⟨g, 0, none⟩ := by
 rcases h.2 with ⟨h', h0⟩ | ⟨g', cap', cur, h', _, hg, _⟩
 ·omega
 ·simp only [Value.slice.injEq] at h'
  exact ⟨g', h'.1⟩
theorem own_kp {S : Nat → Prop} {w w' : World} {base e sz n : Nat} {v : Value} {xs : List Value} (h : w.ownsRow base e sz v n xs) (k : Kp S w w') (hn : ∀ b, v.ownBlock = some b → ¬ S b) : w'.ownsRow base e sz v n xs := by
 refine ⟨h.1, ?_⟩
 rcases h.2 with h' | ⟨g, cap, cur, rfl, h1, hg, h2⟩
 ·exact .inl h'
 ·exact .inr ⟨g, cap, cur, rfl, h1, (k.block g (Array.getElem?_eq_some_iff.1 hg).1 (hn g rfl)).trans hg, h2⟩
end Go.Proofs.YtihhclhpjgeniaaGreatDoor
namespace Go.Proofs.YtihhclhpjgeniaaGreatDoor
open Go.RowKit Go.Sort
def lowN (b : Int) : Prop := 97 ≤ b ∧ b ≤ 122
instance (b : Int) : Decidable (lowN b) := by unfold lowN; infer_instance
def okN (b : Int) : Prop := lowN b ∨ (48 ≤ b ∧ b ≤ 57)
instance (b : Int) : Decidable (okN b) := by unfold okN; infer_instance
def edgeN (t : ByteArray) : Prop := 1 ≤ t.size ∧ t.size ≤ 8 ∧ lowN (bt t 0)
instance (t : ByteArray) : Decidable (edgeN t) := by unfold edgeN; infer_instance
theorem okName_iff (t : ByteArray) : okName t.data.toList = true ↔ edgeN t ∧ ∀ i, i < t.size → okN (bt t i) := by
 have hl : t.data.toList.length = t.size := by simp
 have hb : ∀ i (h : i < t.size), bt t i = ((t.data.toList[i]'(by omega)).toNat : Int) := fun i h => by rw [bt_in h]; rfl
 have e1 : firstC t.data.toList = true ↔ 0 < t.size ∧ lowN (bt t 0) := by
  cases h : t.data.toList with
  | nil => rw [h] at hl; simp at hl; simp [firstC]; omega
  | cons c r =>
   have h0 : 0 < t.size := by rw [h] at hl; simp at hl; omega
   have := hb 0 h0
   simp only [h, List.getElem_cons_zero] at this
   rw [this]
   simp [firstC, lowC, lowN, h0]
   omega
 have e2 : (t.data.toList.all fun c => lowC c || digC c) = true ↔ ∀ i, i < t.size → okN (bt t i) := by
  rw [List.all_eq_true]
  constructor
  ·intro h i hi
   have := h _ (List.getElem_mem (by omega : i < t.data.toList.length))
   rw [hb i hi]
   simp [lowC, digC] at this
   unfold okN lowN
   simp
   omega
  ·intro h c hc
   obtain ⟨i, hi, rfl⟩ := List.getElem_of_mem hc
   have := h i (by omega)
   rw [hb i (by omega)] at this
   simp [lowC, digC]
   unfold okN lowN at this
   simp at this
   omega
 unfold okName edgeN
 rw [Bool.and_eq_true, Bool.and_eq_true, Bool.and_eq_true, e1, e2, decide_eq_true_eq, decide_eq_true_eq, hl]
 constructor
 ·rintro ⟨⟨⟨h1, h2⟩, h3⟩, h4⟩; exact ⟨⟨h1, h2, h3.2⟩, h4⟩
 ·rintro ⟨⟨h1, h2, h3⟩, h4⟩; exact ⟨⟨⟨h1, h2⟩, by omega, h3⟩, h4⟩
theorem okN_cases (b : Int) : (lowN b) ∨ (b < 97 ∧ 48 ≤ b ∧ b ≤ 57) ∨ (b < 97 ∧ b < 48) ∨ (b < 97 ∧ 48 ≤ b ∧ 57 < b) ∨ (97 ≤ b ∧ 122 < b) := by unfold lowN; omega
end Go.Proofs.YtihhclhpjgeniaaGreatDoor
namespace Go.Proofs.YtihhclhpjgeniaaGreatDoor
def isL (c : UInt8) : Prop := c = 97 ∨ c = 65 ∨ c = 98 ∨ c = 66
def wordL (l : List UInt8) : Prop := ∀ c ∈ l, isL c
abbrev Mat := Int × Int × Int × Int
def flL (l : List UInt8) : List UInt8 := l.map fun c => c ^^^ 3
def miL (l : List UInt8) : List UInt8 := l.map fun c => c ^^^ 32
def inL (l : List UInt8) : List UInt8 := (miL l).reverse
theorem isL_cases {P : UInt8 → Prop} (h1 : P 97) (h2 : P 65) (h3 : P 98) (h4 : P 66) {c : UInt8} (h : isL c) : P c := by
 rcases h with rfl | rfl | rfl | rfl <;> assumption
theorem isL_fl {c : UInt8} (h : isL c) : isL (c ^^^ 3) := isL_cases (P := fun c => isL (c ^^^ 3)) (by unfold isL; decide) (by unfold isL; decide) (by unfold isL; decide) (by unfold isL; decide) h
theorem isL_mi {c : UInt8} (h : isL c) : isL (c ^^^ 32) := isL_cases (P := fun c => isL (c ^^^ 32)) (by unfold isL; decide) (by unfold isL; decide) (by unfold isL; decide) (by unfold isL; decide) h
theorem wordL_fl {l : List UInt8} (h : wordL l) : wordL (flL l) := by
 intro c hc
 obtain ⟨d, hd, rfl⟩ := List.mem_map.1 hc
 exact isL_fl (h d hd)
theorem wordL_mi {l : List UInt8} (h : wordL l) : wordL (miL l) := by
 intro c hc
 obtain ⟨d, hd, rfl⟩ := List.mem_map.1 hc
 exact isL_mi (h d hd)
theorem wordL_in {l : List UInt8} (h : wordL l) : wordL (inL l) := fun c hc => wordL_mi h c (List.mem_reverse.1 hc)
abbrev Sym := Int × Int × Int
end Go.Proofs.YtihhclhpjgeniaaGreatDoor
namespace Go.Proofs.YtihhclhpjgeniaaGreatDoor
open Go.RowKit Go.Sort
abbrev mkB (l : List UInt8) : ByteArray := ⟨l.toArray⟩
abbrev liB (t : ByteArray) : List UInt8 := t.data.toList
theorem mk_li (t : ByteArray) : mkB (liB t) = t := by
 obtain ⟨⟨l⟩⟩ := t
 rfl
theorem li_mk (l : List UInt8) : liB (mkB l) = l := rfl
theorem li_size (t : ByteArray) : (liB t).length = t.size := by
 obtain ⟨⟨l⟩⟩ := t
 rfl
theorem li_get {t : ByteArray} {i : Nat} (h : i < t.size) : (liB t)[i]? = some t[i] := by
 obtain ⟨⟨l⟩⟩ := t
 exact List.getElem?_eq_getElem h
abbrev four : ByteArray := ⟨#[97, 65, 98, 66]⟩
theorem byte_high {c : UInt8} (h : 128 ≤ c.toNat) : Lib.indexByte (liB four) c = -1 ∧ Lib.indexByte [66] c = -1 ∧ Lib.indexByte [98, 66] c = -1 ∧ Lib.indexByte [] c = -1 := by
 have n1 : (97 : UInt8) ≠ c := fun e => by subst e; simp at h
 have n2 : (65 : UInt8) ≠ c := fun e => by subst e; simp at h
 have n3 : (98 : UInt8) ≠ c := fun e => by subst e; simp at h
 have n4 : (66 : UInt8) ≠ c := fun e => by subst e; simp at h
 simp [Lib.indexByte, n1, n2, n3, n4]
set_option maxRecDepth 100000 in
set_option maxHeartbeats 4000000 in
theorem indexRune_high (r : Int) (w : World) (h0 : 128 ≤ r) (h1 : r ≤ 2147483647) :
  Calls Tryz.prog 128 #[.string four, .int .i32 r] w fun e w' => e = .returned (.int .i64 (-1)) ∧ Below w.heap.size w w' := by
 go_enter Tryz.func128, Tryz.ntmps128
 by_cases hr : r = 65533
 ·subst hr
  go_wp2_with fail
  go_loopw [5, 6] (fun _ _ wr => ∃ pos : Nat, pos ≤ 4 ∧ wr = w.iter four pos) (fun _ _ wr => 4 - wr.iterPos w.heap.size)
  case atStart => exact ⟨0, by omega, rfl⟩
  case round =>
   obtain ⟨pos, hp, rfl⟩ := hrel
   rcases (show pos = 0 ∨ pos = 1 ∨ pos = 2 ∨ pos = 3 ∨ pos = 4 by omega) with rfl | rfl | rfl | rfl | rfl
   case' inr.inr.inr.inr => 
    have N := fun ty => run_next_end (P := Tryz.prog) w four 4 ty (by decide)
    go_wp2_with fail
    go_ret
    exact ⟨rfl, belowA _ _⟩
   case' inl => have N : ∀ ty, (Instr.next (.pointer (some ⟨w.heap.size, 0, none⟩)) true ty).run Tryz.prog (w.iter four 0) = .ok (.tuple #[.bool true, .int .i64 0, .int .i32 97]) (w.iter four 1) := fun ty => run_next_ascii w four 0 ty (by decide) (by decide)
   case' inr.inl => have N : ∀ ty, (Instr.next (.pointer (some ⟨w.heap.size, 0, none⟩)) true ty).run Tryz.prog (w.iter four 1) = .ok (.tuple #[.bool true, .int .i64 1, .int .i32 65]) (w.iter four 2) := fun ty => run_next_ascii w four 1 ty (by decide) (by decide)
   case' inr.inr.inl => have N : ∀ ty, (Instr.next (.pointer (some ⟨w.heap.size, 0, none⟩)) true ty).run Tryz.prog (w.iter four 2) = .ok (.tuple #[.bool true, .int .i64 2, .int .i32 98]) (w.iter four 3) := fun ty => run_next_ascii w four 2 ty (by decide) (by decide)
   case' inr.inr.inr.inl => have N : ∀ ty, (Instr.next (.pointer (some ⟨w.heap.size, 0, none⟩)) true ty).run Tryz.prog (w.iter four 3) = .ok (.tuple #[.bool true, .int .i64 3, .int .i32 66]) (w.iter four 4) := fun ty => run_next_ascii w four 3 ty (by decide) (by decide)
   all_goals
    go_wp2_with fail
    go_roundw
    case rel => exact ⟨_, by omega, rfl⟩
    case measure => simp
 ·by_cases hv : Lib.validRune r = true
  ·have hv2 : Utf8.valid r = true := (validRune_eq r).trans hv
   obtain ⟨e2, e4, e5⟩ := encode_facts r hv2 h0
   have g2 : (r == 65533) = false := by simpa using hr
   have g3 : decide (r < 128) = false := by simp; omega
   have g4 : (0 : Int) ≤ r := by omega
   obtain ⟨E, hE⟩ : ∃ E, Utf8.encode r = E := ⟨_, rfl⟩
   rw [hE] at e2 e4
   simp only [hE] at e5
   go_wp2_with fail
   with_reducible refine (Tryz.utf8_ValidRune r _).mono ?_
   rintro _ w2 ⟨rfl, rfl⟩
   rw [hv]
   go_wp2_with fail
   go_step3
   obtain ⟨l, hl⟩ : ∃ l : Nat, E.size = l + 1 := ⟨E.size - 1, by omega⟩
   have m0 : l < E.size := by omega
   have e6 : 128 ≤ (E[l]'m0).toNat := by
    have := e5 (by omega)
    simpa [hl] using this
   clear e5
   have Q : ∀ (s : ByteArray), s.data.toList = [98, 66] ∨ s.data.toList = [66] ∨ s.data.toList = [] → ∀ w4 : World, Calls Tryz.prog 186 #[.string s, .int .u8 ((E[l]'m0).toNat : Int)] w4 fun r w' => r = .returned (.int .i64 (-1)) ∧ Below w4.heap.size w4 w' := fun s hs w4 =>
    (Tryz.strings_IndexByte s _ w4).mono fun r w' ⟨h1, h2⟩ => by
     subst h2
     refine ⟨?_, Below.refl _ _⟩
     rw [h1, show (((E[l]'m0).toNat : Int)).toNat.toUInt8 = E[l]'m0 by simp]
     obtain ⟨_, b1, b2, b3⟩ := byte_high e6
     rcases hs with hs | hs | hs <;> rw [hs]
     ·rw [b2]
     ·rw [b1]
     ·rw [b3]
   rcases (show l = 1 ∨ l = 2 ∨ l = 3 by omega) with rfl | rfl | rfl
   ·have gne : (((four[1]'(by decide)).toNat : Int) != ((E[1]'m0).toNat : Int)) = true := by show ((65 : Int) != _) = true; simp; omega
    have Q0 := Lib.hid fun w4 => Q (four.extract 2 4) (.inl rfl) w4
    clear Q
    go_wp2_with fail
    go_loopw [9, 10, 11, 12] (fun i f _ _ wr => i = .int .i64 1 ∧ f = .int .i64 0 ∧ wr = w2) (fun _ _ _ _ _ => 0)
    case atStart => exact ⟨rfl, rfl, rfl⟩
    case round =>
     obtain ⟨rfl, rfl, rfl⟩ := hrel
     go_wp2_with fail
     go_step3
     go_wp2_with fail
     go_quiet (fail)
     go_wp2_with fail
     refine wp_region_qb mixed (by kernel_rfl) ?_
     repeat (go_big_quiet_step (first | exact rg_call (fun w4 _ => Q0.out w4) _ _))
     refine wpQuiet_nil ?_
     intro w5 hb5
     have HB5 := Lib.hid (Below.trans (below_drewN' (Below.refl _ _) _) hb5)
     clear hb5
     go_wp2_with fail
     go_wp2_with fail
     simp +zetaDelta only [Exit.noGoto_ret, Exit.inBlock, Exit.then]
     go_ret
     exact ⟨rfl, HB5.out⟩
   ·have gne : (((four[2]'(by decide)).toNat : Int) != ((E[2]'m0).toNat : Int)) = true := by show ((98 : Int) != _) = true; simp; omega
    have Q0 := Lib.hid fun w4 => Q (four.extract 3 4) (.inr (.inl rfl)) w4
    clear Q
    go_wp2_with fail
    go_loopw [9, 10, 11, 12] (fun i f _ _ wr => i = .int .i64 2 ∧ f = .int .i64 0 ∧ wr = w2) (fun _ _ _ _ _ => 0)
    case atStart => exact ⟨rfl, rfl, rfl⟩
    case round =>
     obtain ⟨rfl, rfl, rfl⟩ := hrel
     go_wp2_with fail
     go_step3
     go_wp2_with fail
     go_quiet (fail)
     go_wp2_with fail
     refine wp_region_qb mixed (by kernel_rfl) ?_
     repeat (go_big_quiet_step (first | exact rg_call (fun w4 _ => Q0.out w4) _ _))
     refine wpQuiet_nil ?_
     intro w5 hb5
     have HB5 := Lib.hid (Below.trans (below_drewN' (Below.refl _ _) _) hb5)
     clear hb5
     go_wp2_with fail
     go_wp2_with fail
     simp +zetaDelta only [Exit.noGoto_ret, Exit.inBlock, Exit.then]
     go_ret
     exact ⟨rfl, HB5.out⟩
   ·have gne : (((four[3]'(by decide)).toNat : Int) != ((E[3]'m0).toNat : Int)) = true := by show ((66 : Int) != _) = true; simp; omega
    have Q0 := Lib.hid fun w4 => Q (four.extract 4 4) (.inr (.inr rfl)) w4
    clear Q
    go_wp2_with fail
    go_loopw [9, 10, 11, 12] (fun i f _ _ wr => i = .int .i64 3 ∧ f = .int .i64 0 ∧ wr = w2) (fun _ _ _ _ _ => 0)
    case atStart => exact ⟨rfl, rfl, rfl⟩
    case round =>
     obtain ⟨rfl, rfl, rfl⟩ := hrel
     go_wp2_with fail
     go_step3
     go_wp2_with fail
     go_quiet (fail)
     go_wp2_with fail
     refine wp_region_qb mixed (by kernel_rfl) ?_
     repeat (go_big_quiet_step (first | exact rg_call (fun w4 _ => Q0.out w4) _ _))
     refine wpQuiet_nil ?_
     intro w5 hb5
     have HB5 := Lib.hid (Below.trans (below_drewN' (Below.refl _ _) _) hb5)
     clear hb5
     go_wp2_with fail
     go_wp2_with fail
     simp +zetaDelta only [Exit.noGoto_ret, Exit.inBlock, Exit.then]
     go_ret
     exact ⟨rfl, HB5.out⟩
  ·have g : Lib.validRune r = false := by simpa using hv
   have g2 : (r == 65533) = false := by simpa using hr
   have g3 : decide (r < 128) = false := by simp; omega
   have g4 : (0 : Int) ≤ r := by omega
   go_wp2_with fail
   with_reducible refine (Tryz.utf8_ValidRune r _).mono ?_
   rintro _ _ ⟨rfl, rfl⟩
   rw [g]
   go_wp2_with fail
   go_ret
   exact ⟨rfl, Below.refl _ _⟩
end Go.Proofs.YtihhclhpjgeniaaGreatDoor
namespace Go.Proofs.YtihhclhpjgeniaaGreatDoor
def pcs (b : UInt8) : List UInt8 → List (List UInt8)
  | [] => [[]]
  | c :: s => if c = b then [] :: pcs b s else match pcs b s with
    | [] => [[c]]
    | w :: l => (c :: w) :: l
theorem pcs_same (b : UInt8) (s : List UInt8) : pcs b (b :: s) = [] :: pcs b s := by simp [pcs]
theorem pcs_ne (b : UInt8) (s : List UInt8) : pcs b s ≠ [] := by
  cases s with
  | nil => simp [pcs]
  | cons c s =>
    unfold pcs
    split
    · simp
    · split <;> simp
theorem pcs_other {b c : UInt8} (h : c ≠ b) {s w : List UInt8} {l : List (List UInt8)} (hs : pcs b s = w :: l) : pcs b (c :: s) = (c :: w) :: l := by
  rw [show pcs b (c :: s) = if c = b then [] :: pcs b s else match pcs b s with
    | [] => [[c]]
    | w :: l => (c :: w) :: l from rfl, if_neg h, hs]
theorem pcs_hit {b : UInt8} {u r : List UInt8} (h : b ∉ u) : pcs b (u ++ b :: r) = u :: pcs b r := by
  induction u with
  | nil => exact pcs_same b r
  | cons c u ih =>
    have hc : c ≠ b := fun e => h (by rw [e]; exact List.mem_cons_self)
    exact pcs_other hc (ih fun hm => h (List.mem_cons_of_mem _ hm))
theorem pcs_one {b : UInt8} {u : List UInt8} (h : b ∉ u) : pcs b u = [u] := by
  induction u with
  | nil => rfl
  | cons c u ih =>
    have hc : c ≠ b := fun e => h (by rw [e]; exact List.mem_cons_self)
    exact pcs_other hc (ih fun hm => h (List.mem_cons_of_mem _ hm))
theorem mem_pcs {b : UInt8} {s : List UInt8} {c : UInt8} (h : c ∈ s) (hc : c ≠ b) : ∃ w ∈ pcs b s, c ∈ w := by
  induction s with
  | nil => cases h
  | cons d s ih =>
    by_cases hd : d = b
    · subst hd
      rw [pcs_same]
      rcases List.mem_cons.1 h with e | h
      · exact absurd e hc
      · obtain ⟨w, hw, hm⟩ := ih h
        exact ⟨w, List.mem_cons_of_mem _ hw, hm⟩
    · cases hp : pcs b s with
      | nil => exact absurd hp (pcs_ne b s)
      | cons x l =>
        rw [pcs_other hd hp]
        rcases List.mem_cons.1 h with rfl | h
        · exact ⟨c :: x, List.mem_cons_self, List.mem_cons_self⟩
        · obtain ⟨w, hw, hm⟩ := ih h
          rw [hp] at hw
          rcases List.mem_cons.1 hw with rfl | hw
          · exact ⟨d :: w, List.mem_cons_self, List.mem_cons_of_mem _ hm⟩
          · exact ⟨w, List.mem_cons_of_mem _ hw, hm⟩
theorem pcs_len {b : UInt8} {s w : List UInt8} (h : w ∈ pcs b s) : w.length ≤ s.length := by
  induction s generalizing w with
  | nil => simp [pcs] at h; subst h; simp
  | cons d s ih =>
    by_cases hd : d = b
    · subst hd
      rw [pcs_same] at h
      rcases List.mem_cons.1 h with rfl | h
      · simp
      · have := ih h; simp; omega
    · cases hp : pcs b s with
      | nil => exact absurd hp (pcs_ne b s)
      | cons x l =>
        rw [pcs_other hd hp] at h
        rw [hp] at ih
        rcases List.mem_cons.1 h with rfl | h
        · have := ih List.mem_cons_self; simp; omega
        · have := ih (List.mem_cons_of_mem _ h); simp; omega
def decV (l : List UInt8) : Int := l.foldl (fun n c => 10 * n + ((c.toNat : Int) - 48)) 0
theorem decV_snoc (l : List UInt8) (c : UInt8) : decV (l ++ [c]) = 10 * decV l + ((c.toNat : Int) - 48) := by simp [decV]
theorem decV_in {l : List UInt8} (h : ∀ c ∈ l, digC c = true) : 0 ≤ decV l ∧ decV l < 10 ^ l.length := by
  refine snoc_ind (P := fun l => (∀ c ∈ l, digC c = true) → 0 ≤ decV l ∧ decV l < 10 ^ l.length) (fun _ => by simp [decV]) ?_ l h
  intro l c ih h
  have a := ih fun d hd => h d (List.mem_append_left _ hd)
  have b := h c (by simp)
  simp only [digC, Bool.and_eq_true, decide_eq_true_eq] at b
  rw [decV_snoc, List.length_append, List.length_singleton, Int.pow_succ]
  generalize (10 : Int) ^ l.length = z at a ⊢
  omega
def numV (l : List UInt8) : Option Int :=
  if l.length < 1 ∨ 7 < l.length ∨ (1 < l.length ∧ l[0]? = some 48) then none
  else if l.all digC = true then (if decV l ≤ 1000000 then some (decV l) else none) else none
def letW (l : List UInt8) : Bool := decide (l ≠ []) && l.all fun c => lowC c || digC c
theorem numV_in {l : List UInt8} {n : Int} (h : numV l = some n) : 0 ≤ n ∧ n ≤ 1000000 := by
  unfold numV at h
  split at h
  · cases h
  · split at h
    · rename_i h2
      split at h
      · injection h with h
        have := decV_in (l := l) (by simpa using h2)
        omega
      · cases h
    · cases h
structure Ordr where
  kind : Nat
  names : List (List UInt8)
  style : List UInt8
  nums : List Int
deriving DecidableEq
def cmds : List (List UInt8 × Nat × List Nat) :=
  [([98, 117, 121], 0, [0, 1, 1, 1]), ([109, 105, 120], 1, [0, 0]), ([100, 114, 97, 119], 2, [0, 1, 0]), ([104, 97, 99, 107, 108, 101], 3, [0, 1]), ([116, 117, 114, 110], 4, [0]),
   ([115, 110, 97, 112], 5, [0, 1, 1, 1]), ([119, 105, 103], 6, [0, 0, 1, 1]), ([107, 110, 111, 116], 7, [0, 1]), ([98, 108, 101, 97, 99, 104], 8, [0]), ([100, 121, 101], 9, [0, 1, 1]),
   ([112, 108, 97, 105, 116], 10, [0, 2]), ([99, 111, 109, 98], 11, [0]), ([116, 114, 105, 109], 12, [0, 1]), ([119, 97, 115, 104], 13, [0]), ([108, 101, 110, 100], 14, [0]),
   ([98, 97, 99, 107], 15, [0, 1]), ([109, 101, 110, 100], 16, [0, 0, 1]), ([115, 101, 108, 108], 17, [0, 1]), ([99, 108, 97, 105, 109], 18, [0])]
def cmdOf (w : List UInt8) : Option (Nat × List Nat) := (cmds.find? fun x => x.1 == w).map (·.2)
def putW (o : Ordr) (f : Nat) (w : List UInt8) : Option Ordr :=
  if f = 0 then (if letW w then some { o with names := o.names ++ [w] } else none)
  else if f = 1 then (match numV w with
    | some n => some { o with nums := o.nums ++ [n] }
    | none => none)
  else (if w = [] then none else some { o with style := w })
def readO : Ordr → List Nat → List (List UInt8) → Option Ordr
  | o, f :: fs, w :: ws => match putW o f w with
    | some o' => readO o' fs ws
    | none => none
  | o, _, _ => some o
def wordsO (h : List UInt8) (ws : List (List UInt8)) : Option Ordr := match cmdOf h with
  | some (k, f) => if ws.length = f.length then readO ⟨k, [], [], []⟩ f ws else none
  | none => none
def parseO (s : List UInt8) : Option Ordr :=
  if s.length < 1 ∨ 60 < s.length then none else match pcs 32 s with
  | [] => none
  | h :: ws => wordsO h ws
theorem readO_put {o o' : Ordr} {f : Nat} {fs : List Nat} {w : List UInt8} {ws : List (List UInt8)} (h : putW o f w = some o') : readO o (f :: fs) (w :: ws) = readO o' fs ws := by
  simp [readO, h]
theorem readO_no {o : Ordr} {f : Nat} {fs : List Nat} {w : List UInt8} {ws : List (List UInt8)} (h : putW o f w = none) : readO o (f :: fs) (w :: ws) = none := by
  simp [readO, h]
end Go.Proofs.YtihhclhpjgeniaaGreatDoor
namespace Go.Proofs.YtihhclhpjgeniaaGreatDoor
open Go.RowKit Go.Sort
instance (c : UInt8) : Decidable (isL c) := inferInstanceAs (Decidable (_ ∨ _))
instance (l : List UInt8) : Decidable (wordL l) := inferInstanceAs (Decidable (∀ c ∈ l, isL c))
theorem ne8 {c : UInt8} {n : Nat} (h : c ≠ UInt8.ofNat n) (hn : n < 256) : ((c.toNat : Int) == (n : Int)) = false := by
 rw [beq_eq_false_iff_ne]
 intro e
 apply h
 apply UInt8.toNat_inj.1
 rw [UInt8.toNat_ofNat_of_lt' hn]
 omega
theorem isLetter_any (c : UInt8) (w : World) : Calls Tryz.prog 279 #[.int .u8 (c.toNat : Int)] w fun r w' => r = .returned (.bool (decide (isL c))) ∧ w' = w := by
 go_enter Tryz.func279, Tryz.ntmps279
 by_cases h1 : c = 97
 ·subst h1
  go_wp2_with fail
  go_ret
  exact ⟨rfl, rfl⟩
 have g1 : ((c.toNat : Int) == 97) = false := ne8 (n := 97) h1 (by decide)
 by_cases h2 : c = 65
 ·subst h2
  go_wp2_with fail
  go_ret
  exact ⟨rfl, rfl⟩
 have g2 : ((c.toNat : Int) == 65) = false := ne8 (n := 65) h2 (by decide)
 by_cases h3 : c = 98
 ·subst h3
  go_wp2_with fail
  go_ret
  exact ⟨rfl, rfl⟩
 have g3 : ((c.toNat : Int) == 98) = false := ne8 (n := 98) h3 (by decide)
 by_cases h4 : c = 66
 ·subst h4
  go_wp2_with fail
  go_ret
  exact ⟨rfl, rfl⟩
 have g4 : ((c.toNat : Int) == 66) = false := ne8 (n := 66) h4 (by decide)
 have HF := Lib.hid (show decide (isL c) = false by rw [decide_eq_false_iff_not]; unfold isL; simp [h1, h2, h3, h4])
 clear h1 h2 h3 h4
 go_wp2_with fail
 go_ret
 exact ⟨ret_bool HF.out.symm, rfl⟩
def okW (t : ByteArray) : Bool := decide (t.size ≤ 60 ∧ wordL (liB t))
theorem okW_iff {t : ByteArray} : okW t = true ↔ t.size ≤ 60 ∧ wordL (liB t) := by unfold okW; rw [decide_eq_true_eq]
theorem okW_long {t : ByteArray} (h : 60 < t.size) : okW t = false := by unfold okW; rw [decide_eq_false_iff_not]; intro h'; omega
theorem okW_bad {t : ByteArray} {k : Nat} (hk : k < t.size) (h : ¬ isL t[k]) : okW t = false := by
 unfold okW; rw [decide_eq_false_iff_not]; intro h'
 exact h (h'.2 _ (List.mem_of_getElem? (li_get hk)))
theorem okW_all {t : ByteArray} (h : t.size ≤ 60) (h2 : ∀ i, (hi : i < t.size) → isL t[i]) : okW t = true := by
 rw [okW_iff]
 refine ⟨h, fun c hc => ?_⟩
 obtain ⟨i, hi⟩ := List.mem_iff_getElem?.1 hc
 have hlt : i < t.size := by
  have := (List.getElem?_eq_some_iff.1 hi).1
  rwa [li_size] at this
 rw [li_get hlt] at hi
 obtain rfl := Option.some.inj hi
 exact h2 i hlt
set_option maxRecDepth 100000 in
theorem refValid_any (t : ByteArray) (w : World) (ht : t.size ≤ 1000000) : Calls Tryz.prog 235 #[.string t] w fun r w' => r = .returned (.bool (okW t)) ∧ w' = w := by
 go_enter Tryz.func235, Tryz.ntmps235
 go_wp2_with fail
 go_loopw [3] (fun i wr => ∃ k : Nat, k ≤ t.size ∧ i = .int .i64 k ∧ (∀ i, (hi : i < t.size) → i < k → isL t[i]) ∧ wr = w) (fun i _ => t.size - (intOf i).toNat)
 case atStart => exact ⟨0, by omega, rfl, fun i _ h => by omega, rfl⟩
 case round =>
  obtain ⟨k, hk, rfl, hno, rfl⟩ := hrel
  have HNO := Lib.hid hno
  clear hno
  by_cases hlt : k < t.size
  ·go_wp2_with fail
   with_reducible refine (isLetter_any t[k] _).mono ?_
   rintro _ w2 ⟨rfl, rfl⟩
   by_cases hL : isL t[k]
   ·have HN2 : Hid (∀ i, (hi : i < t.size) → i < k + 1 → isL t[i]) := Lib.hid fun i hi h => by
     rcases Nat.lt_or_ge i k with h' | h'
     ·exact HNO.out i hi h'
     ·obtain rfl : i = k := by omega
      exact hL
    rw [decide_eq_true hL]
    clear hL
    go_wp2_with fail
    go_roundw
    case rel => exact ⟨k + 1, by omega, by go_num, HN2.out, trivial⟩
    case measure => simp [intOf]; omega
   ·have HB := Lib.hid (okW_bad hlt hL)
    rw [decide_eq_false hL]
    clear hL
    go_wp2_with fail
    go_ret
    exact ⟨ret_bool HB.out.symm, rfl⟩
  ·by_cases h60 : t.size ≤ 60
   ·have HA := Lib.hid (okW_all h60 fun i hi => HNO.out i hi (by omega))
    go_wp2_with fail
    go_ret
    refine ⟨ret_bool ?_, rfl⟩
    rw [HA.out, decide_eq_true_eq]
    omega
   ·have HA := Lib.hid (okW_long (t := t) (by omega))
    go_wp2_with fail
    go_ret
    refine ⟨ret_bool ?_, rfl⟩
    rw [HA.out, decide_eq_false_iff_not]
    omega
theorem contains4 {c : UInt8} : decide (0 ≤ Lib.indexByte (liB four) c) = decide (isL c) := by
 rw [← Lib.contains_iff_indexByte]
 rw [Bool.eq_iff_iff, decide_eq_true_eq]
 unfold isL
 simp [liB]
set_option maxRecDepth 100000 in
theorem containsRune_low (c : UInt8) (w : World) (hc : c.toNat < 128) : Calls Tryz.prog 75 #[.string four, .int .i32 (c.toNat : Int)] w fun r w' => r = .returned (.bool (decide (isL c))) ∧ Below w.heap.size w w' := by
 refine (Tryz.strings_ContainsRune_ascii four (c.toNat : Int) w (by omega) (by omega)).mono fun r w' ⟨h1, h2⟩ => ?_
 subst h2
 refine ⟨?_, Below.refl _ _⟩
 rw [h1, show ((c.toNat : Int)).toNat.toUInt8 = c by simp, contains4]
set_option maxRecDepth 100000 in
theorem containsRune_high (r : Int) (w : World) (h0 : 128 ≤ r) (h1 : r ≤ 2147483647) : Calls Tryz.prog 75 #[.string four, .int .i32 r] w fun e w' => e = .returned (.bool false) ∧ Below w.heap.size w w' := by
 go_enter Tryz.func75, Tryz.ntmps75
 go_wp2_with fail
 with_reducible refine (indexRune_high r _ h0 h1).mono ?_
 rintro _ w2 ⟨rfl, hb⟩
 have HB := Lib.hid hb
 clear hb
 go_wp2_with fail
 go_ret
 exact ⟨rfl, HB.out⟩
theorem iterPos_of {w : World} {b p : Nat} {t : ByteArray} (h : w.heap[b]? = some (.stringIter t p)) : w.iterPos b = p := by unfold World.iterPos; rw [h]
theorem iter_on {w w' : World} {b p : Nat} {t : ByteArray} (h : w.heap[b]? = some (.stringIter t p)) (hb : Below w.heap.size w w') : w'.heap[b]? = some (.stringIter t p) := by
 rw [hb.block b (Array.getElem?_eq_some_iff.1 h).1]; exact h
set_option maxRecDepth 100000 in
set_option maxHeartbeats 4000000 in
theorem valid_any (t : ByteArray) (w : World) (ht : t.size ≤ 1000000) : Calls Tryz.prog 40 #[.string t] w fun r w' => r = .returned (.bool (okW t)) ∧ Below w.heap.size w w' := by
 go_enter Tryz.func40, Tryz.ntmps40
 by_cases h60 : 60 < t.size
 ·have HA := Lib.hid (okW_long h60)
  go_wp2_with fail
  go_ret
  exact ⟨ret_bool HA.out.symm, Below.refl _ _⟩
 go_wp2_with fail
 go_loopw [4] (fun _ wr => ∃ k : Nat, k ≤ t.size ∧ (∀ i, (hi : i < t.size) → i < k → isL t[i]) ∧ wr.heap[w.heap.size]? = some (.stringIter t k) ∧ Below w.heap.size w wr) (fun _ wr => t.size - wr.iterPos w.heap.size)
 case atStart => exact ⟨0, by omega, fun i _ h => by omega, World.iter_heap w t 0, belowA _ _⟩
 case round =>
  obtain ⟨k, hk, hno, hit, hbw⟩ := hrel
  have HNO := Lib.hid hno
  have HIT := Lib.hid hit
  have HBW := Lib.hid hbw
  clear hno hit hbw
  by_cases hlt : k < t.size
  ·by_cases ha : (t[k]'hlt).toNat < 128
   ·have N := fun ty => Lib.run_next_ascii_at (P := Tryz.prog) wr w.heap.size t k ty HIT.out hlt ha
    have hi := Lib.iterAt_heap wr w.heap.size t k (k + 1) HIT.out
    have hb := Lib.below_iterAt HBW.out (Nat.le_refl w.heap.size) t (k + 1)
    have hp := iterPos_of HIT.out
    generalize wr.iterAt w.heap.size t (k + 1) = w1 at N hi hb
    have HI := Lib.hid hi
    have HB := Lib.hid hb
    have HP := Lib.hid hp
    clear hi hb hp
    go_wp2_with fail
    with_reducible refine (containsRune_low t[k] _ ha).mono ?_
    rintro _ w2 ⟨rfl, hb2⟩
    have HI2 := Lib.hid (iter_on HI.out hb2)
    have HB2 := Lib.hid (HB.out.trans (hb2.mono HB.out.size))
    clear hb2 N
    by_cases hL : isL t[k]
    ·have HN2 : Hid (∀ i, (hi : i < t.size) → i < k + 1 → isL t[i]) := Lib.hid fun i hi h => by
      rcases Nat.lt_or_ge i k with h' | h'
      ·exact HNO.out i hi h'
      ·obtain rfl : i = k := by omega
       exact hL
     rw [decide_eq_true hL]
     clear hL
     go_wp2_with fail
     go_roundw
     case rel => exact ⟨k + 1, by omega, HN2.out, HI2.out, HB2.out⟩
     case measure => rw [iterPos_of HI2.out, HP.out]; omega
    ·have HBD := Lib.hid (okW_bad hlt hL)
     rw [decide_eq_false hL]
     clear hL
     go_wp2_with fail
     go_ret
     exact ⟨ret_bool HBD.out.symm, HB2.out⟩
   ·have N := fun ty => Lib.run_next_any_at (P := Tryz.prog) wr w.heap.size t k ty HIT.out hlt
    have hb := Lib.below_iterAt HBW.out (Nat.le_refl w.heap.size) t (k + (Utf8.decode t k).2)
    have h1 := (decode_high t k hlt (by omega)).1
    have h2 := decode_le t k
    generalize wr.iterAt w.heap.size t (k + (Utf8.decode t k).2) = w1 at N hb
    generalize (Utf8.decode t k).1 = r at N h1 h2
    have HB := Lib.hid hb
    have HBD := Lib.hid (okW_bad hlt (fun h => by
     have := isL_cases (P := fun c => c.toNat < 128) (by decide) (by decide) (by decide) (by decide) h
     exact ha this))
    clear hb
    go_wp2_with fail
    with_reducible refine (containsRune_high r _ (by omega) (by omega)).mono ?_
    rintro _ w2 ⟨rfl, hb2⟩
    have HB2 := Lib.hid (HB.out.trans (hb2.mono HB.out.size))
    clear hb2 N
    go_wp2_with fail
    go_ret
    exact ⟨ret_bool HBD.out.symm, HB2.out⟩
  ·have N := fun ty => Lib.run_next_end_at (P := Tryz.prog) wr w.heap.size t k ty HIT.out hlt
   have HA := Lib.hid (okW_all (by omega) fun i hi => HNO.out i hi (by omega))
   go_wp2_with fail
   go_ret
   exact ⟨ret_bool HA.out.symm, HBW.out⟩
end Go.Proofs.YtihhclhpjgeniaaGreatDoor
