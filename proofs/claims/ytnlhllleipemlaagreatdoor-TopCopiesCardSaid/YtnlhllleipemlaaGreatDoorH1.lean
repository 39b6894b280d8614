/- Merged texts: Wu Ra Rb Dd Md Tc -/
import Derived.Test.YtnlhllleipemlaaGreatDoorG8
import Derived.StillTail
namespace Go.Proofs.YtnlhllleipemlaaGreatDoor
open Go.RowKit Go.Sort

section
variable {c x y : List Ent} {p b : List UInt8} {k m : Nat}
/-- The card that is read out of a beginning of a card's text begins the card's order. -/
theorem torn_head (hc : Card c) (hp : p <+: writeL c) (h : MaxR p x k) : ordE x <+: ordE c :=
  writeL_prefix h.card hc (by rw [h.eq]; exact (List.take_prefix _ _).trans hp)
theorem torn_mem (hc : Card c) (h : Card x) (ho : ordE x <+: ordE c) {e : Ent} (he : e ∈ x) : e ∈ c :=
  (mem_ordE hc).1 (ho.subset ((mem_ordE h).2 he))
theorem torn_merge (hc : Card c) (h : Card x) (ho : ordE x <+: ordE c) : mrgE x c = 0 ∧ mrgL x c = c := by
  have hn : noPart x c := fun e he f hf h1 h2 => sorted_inj hc.sorted (torn_mem hc h ho he) hf h1 h2
  have hv : val2 x c = 0 := val2_zero.2 ⟨h, hc, hn⟩
  have hm : mergeR x c = c := sorted_ext (mergeR_sorted h hc hn) hc.sorted fun e => by
    rw [mem_mergeR h hc]
    exact ⟨fun h' => h'.elim (torn_mem hc h ho) id, .inr⟩
  have := hc.len
  have g := mrg_ok hv (by rw [hm]; omega)
  exact ⟨g.1, g.2.trans hm⟩
theorem torn_more (h : MaxR p x k) (h' : MaxR (p ++ b) y m) : x.length ≤ y.length := by
  have h1 := h'.max x k h.card (by rw [List.length_append]; have := h.le; omega) (by rw [h.eq, List.take_append_of_le_length h.le])
  have h2 : writeL x <+: writeL y := by
    rw [h.eq, h'.eq, ← List.take_append_of_le_length (l₂ := b) h.le]
    exact List.take_prefix_take_left h1
  have h3 := (writeL_prefix h.card h'.card h2).length_le
  rwa [ordE_length h.card, ordE_length h'.card] at h3
end
theorem max_wr {s t : ByteArray} {x : List Ent} {k : Nat} (h : MaxR s.data.toList x k) (ht : t.data.toList = writeL x) : t ++ s.extract k s.size = s := by
  apply ByteArray.ext
  apply Array.toList_inj.1
  rw [ByteArray.data_append, Array.toList_append, ht, h.eq, drop_list, List.take_append_drop]
theorem wr_text {es : List Ent} (h : Card es) : (⟨(wrX es).toArray⟩ : ByteArray).data.toList = writeL es := by
  show wrX es = _
  unfold wrX
  rw [if_pos (val_zero.2 h)]
theorem card_shortT {es : List Ent} (h : Card es) : shortT es := fun e he => by
  have := card_text h he
  omega
theorem wr_size {es : List Ent} {t : ByteArray} (h : Card es) (ht : t.data.toList = writeL es) : t.size ≤ 4560 := by
  have h1 := writeL_len h
  rw [← ht] at h1
  simpa using h1
theorem cut_head (s : ByteArray) (k : Nat) : (s.extract 0 k).data.toList <+: s.data.toList := by rw [take_list]; exact List.take_prefix _ _
theorem app_list (a b : ByteArray) : (a ++ b).data.toList = a.data.toList ++ b.data.toList := by rw [ByteArray.data_append, Array.toList_append]
theorem uwrap_mod (cut : Int) {n : Nat} (h0 : 0 < n) (h1 : n ≤ 1000000000) : ∃ K : Nat, K < n ∧ wrap64 ((IntKind.u64.wrap cut).tmod (n : Int)) = (K : Int) := by
  have hu : 0 ≤ IntKind.u64.wrap cut := by
    unfold IntKind.wrap
    simp [IntKind.bits, IntKind.signed]
    exact Int.emod_nonneg _ (by omega)
  have a := Int.emod_nonneg (IntKind.u64.wrap cut) (show (n : Int) ≠ 0 by omega)
  have b := Int.emod_lt_of_pos (IntKind.u64.wrap cut) (show (0 : Int) < n by omega)
  rw [Int.tmod_eq_emod_of_nonneg hu, IntWalk.wrap64_in _ (by omega)]
  exact ⟨(IntKind.u64.wrap cut % (n : Int)).toNat, by omega, by omega⟩
end Go.Proofs.YtnlhllleipemlaaGreatDoor

namespace Go.Proofs.YtnlhllleipemlaaGreatDoor
open Go.RowKit Go.Sort

theorem relation_any (A B : Option Addr) (n m c d : Nat) (es fs : List Ent) (w : World) (hl : Reads w w.heap.size 6 A n (ents es)) (hm : Reads w w.heap.size 6 B m (ents fs)) (hn : n ≤ 1000000) (hn2 : m ≤ 1000000) (ht : shortT es) (ht2 : shortT fs) :
    Calls Tryz.prog 37 #[.slice A n c, .slice B m d] w fun r w' => r = .returned (.tuple #[.int .i64 (relV es fs), .int .i64 (val2 es fs)]) ∧ Below w.heap.size w w' := by
  go_enter Tryz.func37, Tryz.ntmps37
  go_wp2_with fail
  with_reducible refine (split_any A B n m c d es fs _ hl hm hn hn2 ht ht2).mono ?_
  rintro _ w2 ⟨v1, v2, v3, rfl, -, ⟨A2, c2, rfl, ho2⟩, ⟨A3, c3, rfl, ho3⟩⟩
  have HW4 := Lib.hid ho2.bel
  clear ho2 ho3 hl hm ht ht2
  by_cases hv : val2 es fs = 0
  case neg =>
    have HV := Lib.hid (show relV es fs = 0 from if_neg hv)
    have g := neB hv
    clear hv
    go_wp2_with fail
    go_ret2
    exact ⟨by rw [HV.out]; rfl, HW4.out⟩
  have HV := Lib.hid hv
  have HV2 := Lib.hid (show relV es fs = relN (wo es fs false).length (wo fs es false).length from if_pos hv)
  have e1 : spl es fs (wo es fs false) = wo es fs false := if_pos hv
  have e2 : spl es fs (wo fs es false) = wo fs es false := if_pos hv
  have g := neBf hv
  rw [e1, e2]
  clear hv e1 e2
  generalize (wo es fs false).length = X at HV2 ⊢
  generalize (wo fs es false).length = Y at HV2 ⊢
  by_cases h1 : 0 < X <;> by_cases h2 : 0 < Y
  all_goals
    have h1' := Lib.hid h1
    have h2' := Lib.hid h2
    go_wp2_with fail
    go_ret2
    refine ⟨?_, HW4.out⟩
    rw [HV2.out, HV.out]
    have q1 := h1'.out
    have q2 := h2'.out
    simp only [relN, q1, q2]
    rfl

theorem rel_grown {a b : List Ent} (hv : val2 b a = 0) (h : ∀ e ∈ a, e ∈ b) : relV b a = 1 ∨ relV b a = 0 := by
  have h2 : wo a b false = [] := by
    apply List.eq_nil_iff_forall_not_mem.2
    intro e he
    rw [mem_wo] at he
    exact he.2 (h e he.1)
  unfold relV
  rw [if_pos hv, h2]
  unfold relN
  simp only [List.length_nil, Nat.lt_irrefl, and_false, if_false]
  split <;> simp
theorem grown_any (A B : Option Addr) (n m c d : Nat) (a b : List Ent) (w : World) (hl : Reads w w.heap.size 6 A n (ents a)) (hm : Reads w w.heap.size 6 B m (ents b)) (hn : n ≤ 1000000) (hn2 : m ≤ 1000000) (ht : shortT a) (ht2 : shortT b) (hv : val2 b a = 0) (h : ∀ e ∈ a, e ∈ b) :
    Calls Tryz.prog 18 #[.slice A n c, .slice B m d] w fun r w' => r = .returned (.bool true) ∧ Below w.heap.size w w' := by
  go_enter Tryz.func18, Tryz.ntmps18
  go_wp2_with fail
  with_reducible refine (relation_any B A m n d c b a _ hm hl hn2 hn ht2 ht).mono ?_
  rintro _ w2 ⟨rfl, hb2⟩
  rw [hv]
  have HB := Lib.hid hb2
  rcases rel_grown hv h with e | e
  all_goals
    rw [e]
    clear hl hm hn hn2 ht ht2 hv h hb2 e
    go_wp2_with fail
    go_ret
    exact ⟨rfl, HB.out⟩
/-- A number from 0 to n. -/
def wi (k : Int) (n : Nat) : Nat := (wrap64 ((IntKind.u64.wrap k).tmod ((n : Int) + 1))).toNat
theorem wi_le (k : Int) {n : Nat} (hn : n ≤ 1000000) : wi k n ≤ n ∧ wrap64 ((IntKind.u64.wrap k).tmod ((n : Int) + 1)) = (wi k n : Int) := by
  obtain ⟨K, hK, hKe⟩ := uwrap_mod k (n := n + 1) (by omega) (by omega)
  push_cast at hKe
  unfold wi
  rw [hKe]
  exact ⟨by omega, by omega⟩
theorem within_any (k : Int) (n : Nat) (w : World) (hn : n ≤ 1000000) :
    Calls Tryz.prog 16 #[.int .i64 k, .int .i64 n] w fun r w' => r = .returned (.int .i64 (wi k n)) ∧ w' = w := by
  obtain ⟨_, hKe⟩ := wi_le k hn
  go_enter Tryz.func16, Tryz.ntmps16
  go_wp2_with fail
  go_ret
  exact ⟨by rw [hKe]; rfl, rfl⟩
end Go.Proofs.YtnlhllleipemlaaGreatDoor

namespace Go.Proofs.YtnlhllleipemlaaGreatDoor
open Go.RowKit Go.Sort

/-- Three copies: each entry stands on the copy of its own place. -/
structure Fam (C : Nat → List Ent) : Prop where
  card : ∀ q, Card (C q)
  own : ∀ q, ∀ e ∈ C q, e ∈ C e.1.toNat
def upd (C : Nat → List Ent) (k : Nat) (l : List Ent) : Nat → List Ent := fun q => if q = k then l else C q
theorem upd_self (C : Nat → List Ent) (k : Nat) (l : List Ent) : upd C k l k = l := if_pos rfl
theorem upd_ne (C : Nat → List Ent) {k q : Nat} (l : List Ent) (h : q ≠ k) : upd C k l q = C q := if_neg h
theorem Fam.nil : Fam fun _ => [] := ⟨fun _ => card_nil', fun _ _ h => by cases h⟩
section
variable {C : Nat → List Ent}
theorem Fam.np (h : Fam C) (q r : Nat) : noPart (C q) (C r) := fun e he f hf h1 h2 => by
  have h3 := h.own q e he
  have h4 := h.own r f hf
  rw [← h1] at h4
  exact sorted_inj (h.card _).sorted h3 h4 h1 h2
theorem Fam.val2 (h : Fam C) (q r : Nat) : val2 (C q) (C r) = 0 := val2_zero.2 ⟨h.card q, h.card r, h.np q r⟩
theorem mrgE_zero {a b : List Ent} (hv : val2 a b = 0) : mrgE a b = 0 ∨ mrgE a b = 4 := by
  by_cases h : 60 < (mergeR a b).length
  · exact .inr (mrg_large hv h).1
  · exact .inl (mrg_ok hv h).1
theorem mrg_of {a b : List Ent} (hv : val2 a b = 0) (h : mrgE a b = 0) : mrgL a b = mergeR a b ∧ (mergeR a b).length ≤ 60 := by
  by_cases hl : 60 < (mergeR a b).length
  · rw [(mrg_large hv hl).1] at h; exact absurd h (by decide)
  · exact ⟨(mrg_ok hv hl).2, by omega⟩
theorem Fam.merge (h : Fam C) {k r : Nat} (h0 : mrgE (C k) (C r) = 0) : Fam (upd C k (mrgL (C k) (C r))) ∧ (∀ e ∈ C k, e ∈ mrgL (C k) (C r)) ∧ Card (mrgL (C k) (C r)) := by
  obtain ⟨h1, h2⟩ := mrg_of (h.val2 k r) h0
  have hm : ∀ e, e ∈ mergeR (C k) (C r) ↔ e ∈ C k ∨ e ∈ C r := fun e => mem_mergeR (h.card k) (h.card r)
  have hc := card_merge (h.card k) (h.card r) (h.np k r) h2
  rw [h1]
  refine ⟨⟨fun q => ?_, fun q e he => ?_⟩, fun e he => (hm e).2 (.inl he), hc⟩
  · by_cases hq : q = k
    · rw [hq, upd_self]; exact hc
    · rw [upd_ne _ _ hq]; exact h.card q
  · have ho : e ∈ C e.1.toNat := by
      by_cases hq : q = k
      · rw [hq, upd_self] at he
        exact ((hm e).1 he).elim (h.own k e) (h.own r e)
      · rw [upd_ne _ _ hq] at he; exact h.own q e he
    by_cases hk : e.1.toNat = k
    · rw [hk, upd_self]; rw [hk] at ho; exact (hm e).2 (.inl ho)
    · rw [upd_ne _ _ hk]; exact ho
theorem addE_cases {c : List Ent} (hc : Card c) (p : Int) (t : ByteArray) : addE c p t = 0 ∨ addE c p t = 1 ∨ addE c p t = 4 := by
  unfold addE
  rw [val_zero.2 hc]
  simp only [ne_eq, not_true_eq_false, if_false]
  split
  · exact .inr (.inl rfl)
  · split
    · exact .inr (.inr rfl)
    · exact .inl rfl
theorem Fam.add (h : Fam C) {k : Nat} (hk : k < 3) {t : ByteArray} (h0 : addE (C k) k t = 0) : Fam (upd C k (addL' (C k) k t)) ∧ (∀ e ∈ C k, e ∈ addL' (C k) k t) ∧ Card (addL' (C k) k t) := by
  have e1 : addL' (C k) k t = addR (C k) k t := if_pos h0
  obtain ⟨-, -, -, hr, hl⟩ := addE_zero.1 h0
  have hm : ∀ e, e ∈ addR (C k) k t ↔ e ∈ C k ∨ e = newE (C k) k t := fun e => mem_addR (h.card k) (by omega) (by omega)
  have hc := card_add (h.card k) (p := (k : Int)) (by omega) (by omega) hr hl
  rw [e1]
  refine ⟨⟨fun q => ?_, fun q e he => ?_⟩, fun e he => (hm e).2 (.inl he), hc⟩
  · by_cases hq : q = k
    · rw [hq, upd_self]; exact hc
    · rw [upd_ne _ _ hq]; exact h.card q
  · by_cases hq : q = k
    · rw [hq, upd_self] at he
      rcases (hm e).1 he with h1 | h1
      · have ho := h.own k e h1
        by_cases hk2 : e.1.toNat = k
        · rw [hk2, upd_self]; rw [hk2] at ho; exact (hm e).2 (.inl ho)
        · rw [upd_ne _ _ hk2]; exact ho
      · have : e.1.toNat = k := by rw [h1]; unfold newE; simp
        rw [this, upd_self]; exact he
    · rw [upd_ne _ _ hq] at he
      have ho := h.own q e he
      by_cases hk2 : e.1.toNat = k
      · rw [hk2, upd_self]; rw [hk2] at ho; exact (hm e).2 (.inl ho)
      · rw [upd_ne _ _ hk2]; exact ho
theorem Fam.np_merge (h : Fam C) {k r : Nat} (h0 : mrgE (C k) (C r) = 0) (s : Nat) : Go.Proofs.YtnlhllleipemlaaGreatDoor.val2 (mrgL (C k) (C r)) (C s) = 0 := by
  obtain ⟨h1, h2⟩ := mrg_of (h.val2 k r) h0
  obtain ⟨_, _, hc⟩ := h.merge h0
  refine val2_zero.2 ⟨hc, h.card s, fun e he f hf k1 k2 => ?_⟩
  rw [h1] at he
  rcases (mem_mergeR (h.card k) (h.card r)).1 he with he | he
  · exact h.np k s e he f hf k1 k2
  · exact h.np r s e he f hf k1 k2
/-- All ways to bring them together give the same card. -/
theorem Fam.all (h : Fam C) (h0 : mrgE (C 0) (C 1) = 0) (h1 : mrgE (mrgL (C 0) (C 1)) (C 2) = 0) :
    mrgE (C 2) (C 1) = 0 ∧ mrgE (mrgL (C 2) (C 1)) (C 0) = 0 ∧ mrgL (mrgL (C 2) (C 1)) (C 0) = mrgL (mrgL (C 0) (C 1)) (C 2) ∧ Card (mrgL (mrgL (C 0) (C 1)) (C 2)) ∧ Card (mrgL (C 2) (C 1)) ∧ Card (mrgL (C 0) (C 1)) := by
  obtain ⟨a1, a2⟩ := mrg_of (h.val2 0 1) h0
  have hv := h.np_merge h0 2
  obtain ⟨b1, b2⟩ := mrg_of hv h1
  rw [a1] at hv b1 b2
  obtain ⟨c1, c2, c3, c4, c5⟩ := mergeR_assoc (h.val2 0 1) hv b2
  obtain ⟨d1, d2⟩ := mergeR_comm c1
  have e0 := mrg_ok d1 (by rw [d2]; omega)
  obtain ⟨f1, f2⟩ := mergeR_comm c3
  have e3 : mrgL (C 2) (C 1) = mergeR (C 1) (C 2) := by rw [e0.2, d2]
  have e4 := mrg_ok f1 (by rw [f2, c4]; omega)
  have hall : mrgL (mrgL (C 0) (C 1)) (C 2) = mergeR (mergeR (C 0) (C 1)) (C 2) := by rw [a1]; exact b1
  refine ⟨e0.1, by rw [e3]; exact e4.1, by rw [e3, e4.2, f2, c4, hall], ?_, ?_, ?_⟩
  · rw [hall]; exact val_zero.1 c5
  · rw [e3]; exact card_merge (h.card 1) (h.card 2) (h.np 1 2) c2
  · rw [a1]; exact card_merge (h.card 0) (h.card 1) (h.np 0 1) a2
end
/-- A part of a card brings nothing new. -/
theorem torn_merge' {c x : List Ent} (hc : Card c) (h : Card x) (ho : ordE x <+: ordE c) : mrgE c x = 0 ∧ mrgL c x = c := by
  have hn : noPart x c := fun e he f hf h1 h2 => sorted_inj hc.sorted (torn_mem hc h ho he) hf h1 h2
  have hv : val2 c x = 0 := val2_zero.2 ⟨hc, h, noPart_symm hn⟩
  have hm : mergeR c x = c := sorted_ext (mergeR_sorted hc h (noPart_symm hn)) hc.sorted fun e => by
    rw [mem_mergeR hc h]
    exact ⟨fun h' => h'.elim id (torn_mem hc h ho), .inl⟩
  have := hc.len
  have g := mrg_ok hv (by rw [hm]; omega)
  exact ⟨g.1, g.2.trans hm⟩
end Go.Proofs.YtnlhllleipemlaaGreatDoor

namespace Go.Proofs.YtnlhllleipemlaaGreatDoor
open Go.ChangeShapes Go.WideShapes Go.ChangeAt Go.RowKit Go.Joins Go.Deep Go.Sort

/-- A deed: from, to, text. -/
abbrev Ded := Int × Int × ByteArray
def dcells (e : Ded) : List Value := [.int .i64 e.1, .int .i64 e.2.1, .string e.2.2]
def deds (es : List Ded) : List Value := es.flatMap dcells
theorem deds_length (es : List Ded) : (deds es).length = es.length * 3 := by
  induction es with
  | nil => rfl
  | cons e l ih =>
    show (dcells e ++ deds l).length = _
    rw [List.length_append, ih]; simp [dcells]; omega
theorem deds_get {es : List Ded} {k i : Nat} (h : k < es.length) (hi : i < 3) : (deds es)[k * 3 + i]? = (dcells es[k])[i]? := by
  induction es generalizing k with
  | nil => simp at h
  | cons e l ih =>
    have hl : (dcells e).length = 3 := rfl
    show (dcells e ++ deds l)[k * 3 + i]? = _
    cases k with
    | zero => rw [List.getElem?_append_left (by omega)]; simp
    | succ k =>
      have := ih (k := k) (by simpa using h)
      rw [List.getElem?_append_right (by omega), hl, show (k + 1) * 3 + i - 3 = k * 3 + i by omega]
      simpa using this
/-- The cells of an element. -/
theorem deat {w : World} {B : Nat} {A : Option Addr} {m : Nat} {es : List Ded} (h : Reads w B 3 A m (deds es)) {k : Nat} (hk : k < es.length) :
    ∃ ad e, A = some ad ∧ ad.block < B ∧ es[k]? = some e ∧ w.cell? (ad.add (k * 3)) = some (.int .i64 e.1) ∧
    w.cell? ⟨(ad.add (k * 3)).block, (ad.add (k * 3)).off + 1, none⟩ = some (.int .i64 e.2.1) ∧ w.cell? ⟨(ad.add (k * 3)).block, (ad.add (k * 3)).off + 2, none⟩ = some (.string e.2.2) := by
  have hl := h.1
  rw [deds_length] at hl
  obtain ⟨ad, e, hb, hc⟩ := h.2 (by omega)
  have g : ∀ i, i < 3 → w.cell? ((ad.add (k * 3)).add i) = (dcells es[k])[i]? := fun i hi => by
    rw [add_of_add]
    have g0 := deds_get hk hi
    cases hx : (dcells es[k])[i]? with
    | none => rw [List.getElem?_eq_none_iff] at hx; simp [dcells] at hx; omega
    | some u => exact hc _ u (g0.trans hx)
  refine ⟨ad, es[k], e, hb, List.getElem?_eq_getElem hk, ?_, ?_, ?_⟩
  · have := g 0 (by omega)
    simpa [dcells, add_of_add] using this
  all_goals
    first
    | (have := g 1 (by omega); rw [add_pos _ 1 (by omega)] at this; simpa [dcells] using this)
    | (have := g 2 (by omega); rw [add_pos _ 2 (by omega)] at this; simpa [dcells] using this)
theorem ix36 {A : Option Addr} {ad : Addr} {n c k : Nat} (h : A = some ad) (hk : k < n) (w : World) : (Instr.indexAt 36 (.slice A n c) (.int .i64 (k : Int))).run Tryz.prog w = .ok (.pointer (some (ad.add (k * 3)))) w := by
  subst h
  have h0 : (0 : Int) ≤ (k : Int) ∧ (k : Int) < (n : Int) := by omega
  have hs : (sizeOf (Tryz.prog.elem 36)).run Tryz.prog w = .ok 3 w := by kernel_rfl
  rw [run_indexAt_slice w 36 ad n c .i64 k (by kernel_rfl), if_pos h0, hs]
  simp [Result.andThen]
theorem ix38 (b k : Nat) (h : k < 3) (w : World) : (Instr.indexAt 38 (.pointer (some ⟨b, 0, none⟩)) (.int .i64 (k : Int))).run Tryz.prog w = .ok (.pointer (some ⟨b, k, none⟩)) w := by
  rcases (show k = 0 ∨ k = 1 ∨ k = 2 by omega) with rfl | rfl | rfl <;> kernel_rfl
theorem cellsD : Tryz.prog.cellsOf 40 = 3 := by kernel_rfl
section
variable {H : Type} {enc : TypeId × Value → H} {W : World} {b0 : Nat} {v : Value} {d : DataW H} {p : List MemPlace}
/-- The cells of a deed at an address. -/
def AtD (W : World) (a : Addr) (e : Ded) : Prop := ∀ i u, (dcells e)[i]? = some u → W.cell? (a.add i) = some u
set_option maxRecDepth 100000 in
theorem one_ded {n : Nat} {a : Addr} {cs : List Value} {y : DataW H × List MemPlace} (hcs : W.cells? 0 a 3 = some cs) (ht : DataW.trod enc Tryz.prog W 0 (fun _ => true) true n 40 cs = some y) :
    ∃ e : Ded, AtD W a e ∧ Bd e.1 ∧ Bd e.2.1 := by
  obtain ⟨_, hlen, hat⟩ := World.cells?_some hcs
  obtain ⟨xs, k, _, _, _, hxl, hg⟩ := DataW.trod_struct Tryz.underlying40 ht
  match cs, hlen with
  | [c0, c1, c2], _ =>
    match xs, hxl with
    | [y0, y1, y2], _ =>
      have t0 : DataW.trod enc Tryz.prog W 0 (fun _ => true) true k 3 (([c0, c1, c2].drop 0).take (Tryz.prog.cellsOf 3)) = some y0 := hg 0 _ rfl
      have t1 : DataW.trod enc Tryz.prog W 0 (fun _ => true) true k 3 (([c0, c1, c2].drop 1).take (Tryz.prog.cellsOf 3)) = some y1 := hg 1 _ rfl
      have t2 : DataW.trod enc Tryz.prog W 0 (fun _ => true) true k 9 (([c0, c1, c2].drop 2).take (Tryz.prog.cellsOf 9)) = some y2 := hg 2 _ rfl
      rw [cells3] at t0 t1
      rw [cells9] at t2
      obtain ⟨x0, e0, _, w0⟩ := DataW.trod_int Tryz.underlying3 t0
      obtain ⟨x1, e1, _, w1⟩ := DataW.trod_int Tryz.underlying3 t1
      obtain ⟨x2, e2, _, _⟩ := DataW.trod_string Tryz.underlying9 t2
      simp at e0 e1 e2
      subst e0 e1 e2
      refine ⟨(x0, x1, x2), ?_, bd_of_wf w0, bd_of_wf w1⟩
      intro i u hu
      have hi : i < 3 := (List.getElem?_eq_some_iff.1 hu).1
      rw [hat i hi]
      exact hu
set_option maxRecDepth 100000 in
theorem open_deds (hv : Value.okWide Tryz.prog W .any b0 36 v) (h : DataW.Trod enc Tryz.prog W 0 (fun _ => true) true 36 v d p) :
    ∃ A n c es, v = .slice A n c ∧ Reads W W.heap.size 3 A n (deds es) ∧ (n ≤ c ∧ c ≤ 9223372036854775807) ∧ ∀ e ∈ es, Bd e.1 ∧ Bd e.2.1 := by
  obtain ⟨A0, len0, cap0, rfl⟩ := okWide_slice Tryz.underlying36 hv
  obtain ⟨fuel, hf⟩ := h
  rcases open_slice Tryz.underlying36 hf with ⟨e, _⟩ | ⟨a, len, cap, m, n', D, Pl, e, _, hl, hm, hmm, _, hel⟩
  · obtain ⟨rfl, rfl, rfl⟩ : A0 = none ∧ len0 = 0 ∧ cap0 = 0 := by simpa [Value.cells] using e
    exact ⟨none, 0, 0, [], rfl, Reads.nil, by omega, fun q hq => by simp at hq⟩
  · obtain ⟨rfl, rfl, rfl⟩ : A0 = some a ∧ len0 = len ∧ cap0 = cap := by simpa [Value.cells] using e
    simp only [if_true] at hmm
    obtain ⟨l, hes, hp⟩ := list_of_fam (fun i (x : Ded) => AtD W (a.add (i * 3)) x ∧ Bd x.1 ∧ Bd x.2.1) len0 (fun i hi => by
      obtain ⟨cs, hcs, ht⟩ := hel i (by omega)
      rw [cellsD] at hcs
      exact one_ded hcs ht)
    refine ⟨some a, len0, cap0, l, rfl, ⟨by rw [deds_length, hes], fun h0 => ⟨a, rfl, ?_, fun j u hu => ?_⟩⟩, by unfold maxLen at hm; omega, fun q hq => ?_⟩
    · have h1 : l[0]? = some l[0] := List.getElem?_eq_getElem (by omega)
      have := World.block_lt_of_cell? _ _ ((hp 0 _ h1).1 0 _ rfl)
      simpa [blockAdd] using this
    · have hjl : j < l.length * 3 := by
        have := (List.getElem?_eq_some_iff.1 hu).1
        rwa [deds_length] at this
      have hk : j / 3 < l.length := by omega
      have q0 := (hp (j / 3) l[j / 3] (List.getElem?_eq_getElem hk)).1
      have r0 := deds_get hk (i := j % 3) (by omega)
      have hj : j / 3 * 3 + j % 3 = j := by omega
      rw [hj, hu] at r0
      have := q0 (j % 3) u r0.symm
      rwa [add_of_add, hj] at this
    · obtain ⟨i, hi, rfl⟩ := List.getElem_of_mem hq
      exact (hp i _ (List.getElem?_eq_getElem hi)).2
end
end Go.Proofs.YtnlhllleipemlaaGreatDoor

namespace Go.Proofs.YtnlhllleipemlaaGreatDoor
open Go.RowKit Go.Sort

section
variable {P : Program} {ops : Array Oper} {md : Region.Mode} {C : World → Prop} {Q : Exit → Act → World → Prop}
/-- Each operation behind n hangs on n, or on one between. -/
def rootB (md : Region.Mode) (ops : Array Oper) (n : Nat) : Bool :=
  (List.range ops.size).all fun t => decide (t ≤ n) || (List.range t).any fun u => decide (n ≤ u) && Region.waitsFor md ops t u
theorem tail_waits' {n : Nat} {listed : Array Bool} (hs : Region.sinkB md ops n = true) (hc : rootB md ops n = true) (hn : n < ops.size) (inv : HeadInv md ops n listed) :
    ∀ (d i : Nat), n - i = d → i < n → listed.getD i true = false → ∀ t, n ≤ t → t ∉ Region.ready md ops listed := by
  intro d
  induction d using Nat.strongRecOn with
  | _ d ih =>
    intro i hd hi hun t ht hr
    obtain ⟨_, ot, hot, hall⟩ := mem_ready.1 hr
    have htlt : t < ops.size := (Array.getElem?_eq_some_iff.1 hot).1
    by_cases htn : t = n
    · subst htn
      have h1 := List.all_eq_true.1 hs i (List.mem_range.2 hi)
      obtain ⟨j, hj, hj2⟩ := List.any_eq_true.1 h1
      simp only [Bool.and_eq_true, decide_eq_true_eq] at hj2
      obtain ⟨oj, hoj, e, he, hb, hon⟩ := Region.waitsFor_spec hj2.2
      have hjle : j ≤ t := by have := List.mem_range.1 hj; omega
      by_cases hjt : j = t
      · subst hjt
        have : oj = ot := Option.some.inj (hoj.symm.trans hot)
        subst this
        have h2 := hall e he hb
        rw [hon, getD_both hun] at h2
        cases h2
      · cases hl : listed.getD j false with
        | true =>
          have h2 := inv.closed j oj hoj hl e he hb
          rw [hon, getD_both hun] at h2
          cases h2
        | false =>
          have hjs : j < listed.size := by rw [inv.size]; omega
          exact ih (t - j) (by omega) j rfl (by omega) (getD_in hjs hl) t (Nat.le_refl _) hr
    · have h1 := List.all_eq_true.1 hc t (List.mem_range.2 htlt)
      simp only [Bool.or_eq_true, decide_eq_true_eq] at h1
      rcases h1 with h1 | h1
      · omega
      · obtain ⟨u, hu, hu2⟩ := List.any_eq_true.1 h1
        simp only [Bool.and_eq_true, decide_eq_true_eq] at hu2
        have hut := List.mem_range.1 hu
        obtain ⟨o', ho', e, he, hb, hon⟩ := Region.waitsFor_spec hu2.2
        have : o' = ot := Option.some.inj (ho'.symm.trans hot)
        subst this
        have h2 := hall e he hb
        rw [hon, getD_both (inv.tail u hu2.1 (by omega))] at h2
        cases h2
theorem wpAnyM_first {n i : Nat} {oi : Oper} {v : Value} {L : Array Bool → Act → Prop} (hi : ops[i]? = some oi) (hsel : ∀ (j : Nat) (o : Oper) cs b, ops[j]? = some o → o.op ≠ .select cs b)
    (hs : Region.sinkB md ops n = true) (hc : rootB md ops n = true) (hn : n < ops.size) (hin : i < n)
    (hdone : ∀ listed a, L listed a → ∀ j ∈ Region.ready md ops listed, n ≤ j) :
    ∀ (f : Nat) (listed : Array Bool) (a : Act), HeadInv md ops n listed →
      (∀ j oj, ops[j]? = some oj → j ≠ i → listed.getD j true = false → (∀ e ∈ oj.after, Region.binds md e = true → e.on ≠ i) → oi.apart ops oj = true) →
      i ∈ Region.ready md ops listed → YieldsIn P ops C oi v a →
      wpAnyT P md ops C n L f (listed.setIfInBounds i true) (a.put oi.dst v) → wpAnyT P md ops C n L (f + 1) listed a := by
  intro f
  induction f with
  | zero =>
    intro listed a inv _ hr hy H
    have hun := (mem_ready.1 hr).1
    refine ⟨fun h => (by rw [h] at hr; cases hr), fun j hj => ?_⟩
    have hjn : j < n := by
      rcases Nat.lt_or_ge j n with h | h
      · exact h
      · exact absurd hj (tail_waits' hs hc hn inv _ i rfl hin hun j h)
    refine ⟨hjn, ?_⟩
    by_cases hji : j = i
    · subst hji; exact hy.qOp hi H
    · have := hdone _ _ H j (ready_mono hj hji)
      omega
  | succ f ih =>
    intro listed a inv hfree hr hy H
    have hun := (mem_ready.1 hr).1
    refine ⟨fun h => (by rw [h] at hr; cases hr), fun j hj => ?_⟩
    have hjn : j < n := by
      rcases Nat.lt_or_ge j n with h | h
      · exact h
      · exact absurd hj (tail_waits' hs hc hn inv _ i rfl hin hun j h)
    refine ⟨hjn, ?_⟩
    by_cases hji : j = i
    · subst hji; exact hy.qOp hi H
    · have h1 := (H.2 j (ready_mono hj hji)).2
      obtain ⟨hjun, oj, hoj, hall⟩ := mem_ready.1 hj
      have hnot : ∀ e ∈ oj.after, Region.binds md e = true → e.on ≠ i := fun e he hb heq => by
        have h1 := hall e he hb
        rw [heq, getD_both hun] at h1
        cases h1
      have h2 := qOp_put hoj (hfree j oj hoj hji hjun hnot) (fun cs b => hsel i oi cs b hi) (fun cs b => hsel j oj cs b hoj) hy h1
      have hfree' : ∀ k ok, ops[k]? = some ok → k ≠ i → (listed.setIfInBounds j true).getD k true = false →
          (∀ e ∈ ok.after, Region.binds md e = true → e.on ≠ i) → oi.apart ops ok = true := fun k ok hk hki hun hno => by
        refine hfree k ok hk hki ?_ hno
        by_cases hjk : j = k
        · subst hjk; exact hjun
        · rw [getD_set_ne true hjk] at hun; exact hun
      refine qOp_mono (fun a' h3 => ih (listed.setIfInBounds j true) a' (inv.set hj hjn) hfree' (ready_mono hr (Ne.symm hji)) h3.1 ?_) h2
      rw [Array.setIfInBounds_comm _ _ hji]
      exact h3.2
/-- The heads in the text's order, then what is asked of the listing. -/
def midHead (md : Region.Mode) (ops : Array Oper) (E : Array Bool → Bool) : Nat → Nat → Array Bool → Bool
  | 0, _, listed => E listed
  | f + 1, k, listed => (Region.ready md ops listed).contains k && Region.free md ops listed k && midHead md ops E f (k + 1) (listed.setIfInBounds k true)
theorem wpAnyM_lex {n : Nat} {E : Array Bool → Bool} {Lq : Act → Prop} (hE : ∀ listed, E listed = true → Region.ready md ops listed = [n]) (hsel : Region.noSelect ops = true) (hs : Region.sinkB md ops n = true) (hc : rootB md ops n = true) (hn : n < ops.size) :
    ∀ (l : List Oper) (k : Nat) (listed : Array Bool) (a : Act), (∀ j, j < l.length → l[j]? = ops[k + j]?) → k + l.length = n → HeadInv md ops n listed →
    midHead md ops E l.length k listed = true → wpQuiet P ops C Lq l a →
    wpAnyT P md ops C n (fun listed' a' => HeadInv md ops n listed' ∧ E listed' = true ∧ Lq a') l.length listed a
  | [], k, listed, a, _, hk, inv, hB, h => ⟨inv, by simpa [midHead] using hB, h⟩
  | o :: l, k, listed, a, hl, hk, inv, hB, h => by
    have h0 : ops[k]? = some o := by simpa using (hl 0 (by simp)).symm
    simp only [List.length_cons, midHead, Bool.and_eq_true] at hB
    obtain ⟨⟨hr, hf⟩, hB'⟩ := hB
    have hkn : k < n := by simp only [List.length_cons] at hk; omega
    have hr' : k ∈ Region.ready md ops listed := by simpa using hr
    have hst : qOp P ops C k (wpQuiet P ops C Lq l) a := by unfold qOp; simp only [h0]; exact h
    obtain ⟨v, hy, hK⟩ := yieldsIn_of_qOp h0 hst
    exact wpAnyM_first h0 (Region.noSelect_spec hsel) hs hc hn hkn (fun listed' a' hL => by intro j hj; rw [hE _ hL.2.1, List.mem_singleton] at hj; omega) l.length listed a inv (Region.free_spec h0 hf) hr' hy
      (wpAnyM_lex hE hsel hs hc hn l (k + 1) _ _ (fun j hj => by have := hl (j + 1) (by simp; omega); simpa [Nat.add_assoc, Nat.add_comm 1 j] using this) (by simp only [List.length_cons] at hk; omega) (inv.set hr' hkn) hB' hK)
/-- The worlds that have only grown. -/
abbrev GrW (w w' : World) : Prop := ∃ p : Regrown, w' = grow (redrawn w p.d) p.os
theorem GrW.below {w w' : World} (h : GrW w w') : Below w.heap.size w w' := by
  obtain ⟨p, hp⟩ := h
  exact hp ▸ below_regrown w p.d p.os
theorem GrW.refl (w : World) : GrW w w := ⟨⟨w.drawn, #[]⟩, by rw [grow_empty]; rfl⟩
theorem GrW.drew (w : World) : GrW w { w with drawn := w.drawn + 1 } := ⟨⟨w.drawn + 1, #[]⟩, by rw [grow_empty]; rfl⟩
/-- What the kernel looks at: the forced operations ns, one after another. -/
def phB (md : Region.Mode) (ops : Array Oper) : List Nat → Nat → Array Bool → Bool
  | [], k, listed => Region.lexFrom md ops (ops.size - k) k listed
  | n :: ns, k, listed => decide (k ≤ n) && decide (n < ops.size) && Region.sinkB md ops n && rootB md ops n &&
    midHead md ops (fun listed' => decide (Region.ready md ops listed' = [n]) && phB md ops ns (n + 1) (listed'.setIfInBounds n true)) (n - k) k listed
def wpPh (P : Program) (ops : Array Oper) (Q : Exit → Act → World → Prop) : List Nat → Nat → List Oper → Act → World → Prop
  | [], _, l, a, w => wpQuiet P ops (GrW w) (fun a' => ∀ w', Below w.heap.size w w' → Q .normal a' w') l a
  | n :: ns, k, l, a, w => wpQuiet P ops (GrW w) (fun a' => ∀ w', Below w.heap.size w w' → wpOp P ops Q n (fun a2 w2 => wpPh P ops Q ns (n + 1) (l.drop (n + 1 - k)) a2 w2) a' w') (l.take (n - k)) a
theorem inv_more {n m : Nat} {listed : Array Bool} (inv : HeadInv md ops n listed) (h : n ≤ m) : HeadInv md ops m listed :=
  ⟨inv.size, inv.closed, fun t ht => inv.tail t (Nat.le_trans h ht)⟩
theorem inv_next {n : Nat} {listed : Array Bool} (inv : HeadInv md ops n listed) (h : n ∈ Region.ready md ops listed) : HeadInv md ops (n + 1) (listed.setIfInBounds n true) :=
  (inv_more inv (Nat.le_succ n)).set h (Nat.lt_succ_self n)
theorem wpAny_ph (hsel : Region.noSelect ops = true) : ∀ (ns : List Nat) (k : Nat) (listed : Array Bool) (a : Act) (w w1 : World), HeadInv md ops k listed → phB md ops ns k listed = true → k ≤ ops.size → GrW w w1 →
    wpPh P ops Q ns k (ops.toList.drop k) a w → wpAny P md ops Q (ops.size - k) listed a w1
  | [], k, listed, a, w, w1, inv, hB, hk, hg, h => by
    have hl : (ops.toList.drop k).length = ops.size - k := by simp
    have H := wpAnyQ_lex (md := md) hsel (ops.toList.drop k) k listed a (fun j => by simp [List.getElem?_drop]) (by rw [hl]; exact hB) h
    rw [hl] at H
    exact wpAny_of_quiet (Q := fun a' => ∀ w', Below w.heap.size w w' → Q .normal a' w') (fun a' w' hw' h' => h' w' (GrW.below hw')) _ _ _ _ hg H
  | n :: ns, k, listed, a, w, w1, inv, hB, hk, hg, h => by
    simp only [phB, Bool.and_eq_true, decide_eq_true_eq] at hB
    obtain ⟨⟨⟨⟨hkn, hn⟩, hs⟩, hc⟩, hmid⟩ := hB
    have hl : ((ops.toList.drop k).take (n - k)).length = n - k := by simp; omega
    have H := wpAnyM_lex (C := GrW w) (E := fun listed' => decide (Region.ready md ops listed' = [n]) && phB md ops ns (n + 1) (listed'.setIfInBounds n true)) (fun listed' h' => by simp only [Bool.and_eq_true, decide_eq_true_eq] at h'; exact h'.1) hsel hs hc hn ((ops.toList.drop k).take (n - k)) k listed a
      (fun j hj => by rw [hl] at hj; simp [hj, List.getElem?_drop]) (by rw [hl]; omega) (inv_more inv hkn) (by rw [hl]; exact hmid) h
    have K := wpAny_of_headT (Q' := Q) (g := ops.size - n) (fun listed' a' w' hw' hL => by
      obtain ⟨inv', hE, hq⟩ := hL
      simp only [Bool.and_eq_true, decide_eq_true_eq] at hE
      obtain ⟨hr, hp⟩ := hE
      rw [show ops.size - n = (ops.size - (n + 1)) + 1 by omega]
      refine ⟨fun h0 => (by rw [h0] at hr; cases hr), fun i hi => ?_⟩
      rw [hr, List.mem_singleton] at hi
      subst hi
      refine wpOp_mono (fun a2 w2 h2 => ?_) (hq w' (GrW.below hw'))
      refine wpAny_ph hsel ns (i + 1) _ a2 w2 w2 (inv_next inv' (by rw [hr]; exact List.mem_singleton.2 rfl)) hp (by omega) (GrW.refl _) ?_
      have e : (ops.toList.drop k).drop (i + 1 - k) = ops.toList.drop (i + 1) := by rw [List.drop_drop]; congr 1; omega
      rwa [e] at h2) _ _ _ _ hg H
    rwa [hl, show n - k + (ops.size - n) = ops.size - k by omega] at K
/-- The law. -/
theorem wp_region_ph {id : Nat} {a : Act} {w : World} {l : List Oper} (ns : List Nat) (hm : P.follows .mixedOrders = true) (hB : (Region.noSelect l.toArray && phB .any l.toArray ns 0 (Array.replicate l.toArray.size false)) = true)
    (h : wpPh P l.toArray Q ns 0 l a w) : (Code.region id l.toArray true).wp P Q a w := by
  simp only [Bool.and_eq_true] at hB
  have inv0 : HeadInv .any l.toArray 0 (Array.replicate l.toArray.size false) :=
    ⟨by simp, fun j oj _ hl => (by rw [getD_replicate_false] at hl; cases hl), fun t _ ht => getD_in (by simpa using ht) (getD_replicate_false _ _)⟩
  refine wp_region_any hm ?_
  have := wpAny_ph (P := P) (Q := Q) hB.1 ns 0 _ a w _ inv0 hB.2 (Nat.zero_le _) (GrW.drew w) (by simpa using h)
  simpa using this
/-- One forced operation. -/
theorem wp_region_mid {id : Nat} {a : Act} {w : World} {l : List Oper} (n : Nat) {o : Oper} (hm : P.follows .mixedOrders = true) (hB : (Region.noSelect l.toArray && phB .any l.toArray [n] 0 (Array.replicate l.toArray.size false)) = true) (ho : l.toArray[n]? = some o)
    (h : wpQuiet P l.toArray (GrW w) (fun a' => ∀ w', Below w.heap.size w w' → wpList P l.toArray (Thn Q fun a2 w2 => wpQuiet P l.toArray (GrW w2) (fun a3 => ∀ w3, Below w2.heap.size w2 w3 → Q .normal a3 w3) (l.drop (n + 1)) a2) [o] a' w') (l.take n) a) : (Code.region id l.toArray true).wp P Q a w := by
  refine wp_region_ph [n] hm hB ?_
  show wpQuiet P l.toArray (GrW w) (fun a' => ∀ w', Below w.heap.size w w' → wpOp P l.toArray Q n _ a' w') (l.take n) a
  exact wpQuiet_mono (fun a' h w' hb => wpOp_of_list ho (h w' hb)) _ _ h
end
end Go.Proofs.YtnlhllleipemlaaGreatDoor

namespace Go.Proofs.YtnlhllleipemlaaGreatDoor
open Go.RowKit Go.Sort

/-- Where three copies lie. -/
structure CpH (b : Nat) (C : Nat → List Ent) (V : Nat → Value) (w : World) : Prop where
  box : Box w b #[V 0, V 1, V 2]
  fz : ∀ i, w.frozen? ⟨b, i, none⟩ = false
  row : ∀ q, ∃ A c, V q = .slice A (C q).length c ∧ w.ownsRow (b + 1) 48 6 (.slice A (C q).length c) (C q).length (ents (C q))
theorem CpH.on {b : Nat} {C : Nat → List Ent} {V : Nat → Value} {w w' : World} (h : CpH b C V w) (hb : Below w.heap.size w w') : CpH b C V w' :=
  ⟨h.box.below hb, fz_below h.box.1 h.fz hb, fun q => by obtain ⟨A, c, h1, h2⟩ := h.row q; exact ⟨A, c, h1, row_on h2 hb⟩⟩
theorem CpH.at {b : Nat} {C : Nat → List Ent} {V : Nat → Value} {w : World} (h : CpH b C V w) {k : Nat} (hk : k < 3) : ∃ A c, w.cell? ⟨b, k, none⟩ = some (.slice A (C k).length c) ∧ Reads w w.heap.size 6 A (C k).length (ents (C k)) := by
  obtain ⟨A, c, h1, h2⟩ := h.row k
  refine ⟨A, c, ?_, Reads.of_own h2⟩
  rw [h.box.at k, ← h1]
  rcases (show k = 0 ∨ k = 1 ∨ k = 2 by omega) with rfl | rfl | rfl <;> rfl
theorem own_ne {b : Nat} {w : World} {A : Option Addr} {n m c : Nat} {xs : List Value} (h : w.ownsRow (b + 1) 48 6 (.slice A n c) m xs) : ∀ k, (Value.slice A n c).ownBlock = some k → k ≠ b := by
  intro k hk
  rcases h.2 with ⟨h1, _⟩ | ⟨g, cap, cur, h1, h2, _⟩
  · rw [h1] at hk; simp [Value.ownBlock] at hk
  · rw [h1] at hk; simp [Value.ownBlock] at hk; omega
theorem CpH.set {b : Nat} {C : Nat → List Ent} {V : Nat → Value} {w : World} (h : CpH b C V w) {k : Nat} (hk : k < 3) {A : Option Addr} {c : Nat} {l : List Ent} (hr : w.ownsRow (b + 1) 48 6 (.slice A l.length c) l.length (ents l)) :
    CpH b (upd C k l) (fun q => if q = k then .slice A l.length c else V q) (w.setCell ⟨b, k, none⟩ (.slice A l.length c)) := by
  refine ⟨?_, fun i => by rw [World.frozen?_setCell]; exact h.fz i, fun q => ?_⟩
  · have := h.box.set (i := k) (by simpa using hk) (.slice A l.length c)
    rcases (show k = 0 ∨ k = 1 ∨ k = 2 by omega) with rfl | rfl | rfl <;> exact this
  · by_cases hq : q = k
    · subst hq
      rw [upd_self, if_pos rfl]
      exact ⟨A, c, rfl, row_far hr (own_ne hr) _⟩
    · rw [upd_ne _ _ hq, if_neg hq]
      obtain ⟨A', c', h1, h2⟩ := h.row q
      exact ⟨A', c', h1, row_far h2 (own_ne h2) _⟩
theorem CpH.new (w : World) : CpH w.heap.size (fun _ => []) (fun _ => .slice none 0 0) (w.alloc (.cells #[.slice none 0 0, .slice none 0 0, .slice none 0 0] 38)) :=
  ⟨Box.new _ _ _, fz_new _ _ _, fun _ => ⟨none, 0, rfl, World.ownsRow_nil _ _ _ _⟩⟩
theorem ix38_0 (b : Nat) (w : World) : (Instr.indexAt 38 (.pointer (some ⟨b, 0, none⟩)) (.int .i64 0)).run Tryz.prog w = .ok (.pointer (some ⟨b, 0, none⟩)) w := by kernel_rfl
theorem ix38_1 (b : Nat) (w : World) : (Instr.indexAt 38 (.pointer (some ⟨b, 0, none⟩)) (.int .i64 1)).run Tryz.prog w = .ok (.pointer (some ⟨b, 1, none⟩)) w := by kernel_rfl
theorem ix38_2 (b : Nat) (w : World) : (Instr.indexAt 38 (.pointer (some ⟨b, 0, none⟩)) (.int .i64 2)).run Tryz.prog w = .ok (.pointer (some ⟨b, 2, none⟩)) w := by kernel_rfl
theorem sub_val2 {a l : List Ent} (ha : Card a) (hl : Card l) (h : ∀ e ∈ a, e ∈ l) : val2 l a = 0 :=
  val2_zero.2 ⟨hl, ha, fun _ he f hf h1 h2 => sorted_inj hl.sorted he (h f hf) h1 h2⟩
theorem within2 (k : Int) (w : World) : Calls Tryz.prog 16 #[.int .i64 k, .int .i64 2] w fun r w' => r = .returned (.int .i64 (wi k 2)) ∧ w' = w := within_any k 2 w (by omega)
set_option maxRecDepth 100000 in
set_option maxHeartbeats 4000000 in
theorem topCopies_any (A : Option Addr) (n c : Nat) (ds : List Ded) (keep : Int) (w : World) (hm : MW w) (hl : Reads w w.heap.size 3 A n (deds ds) ∧ n ≤ c) (_ : Bd keep) :
    Calls Tryz.prog 6 #[.slice A n c, .int .i64 keep] w fun r w' => r = .returned (.bool true) ∧ Below w.heap.size w w' := by
  have HL := Lib.hid hl.1
  have HM := Lib.hid hm
  have hlen := hl.1.1
  rw [deds_length] at hlen
  have l1 : n ≤ ds.length := by omega
  have l2 : ds.length ≤ n := by omega
  have hnc := Lib.hid hl.2
  clear hl hm hlen
  go_enter Tryz.func6, Tryz.ntmps6
  go_wp2_with fail
  with_reducible refine (add_any none 0 0 [] 0 _ _ Reads.nil (by omega) (card_shortT card_nil') (by decide)).mono ?_
  rintro _ w1 ⟨B, d, rfl, hr1, hb1⟩
  have HB1 := Lib.hid hb1
  clear hr1 hb1
  have e1 : addE [] 0 (⟨#[119, 97, 115, 104]⟩ : ByteArray) = 0 := by decide +kernel
  have e2 : (addL' [] 0 (⟨#[119, 97, 115, 104]⟩ : ByteArray)).length = 1 := by decide +kernel
  rw [e1, e2]
  clear e1 e2
  go_wp2_with fail
  obtain ⟨b, hb⟩ : ∃ b, w1.heap.size = b := ⟨_, rfl⟩
  have HBB := Lib.hid hb
  rw [hb]
  have HW1 := Lib.hid (below_trans' HB1.out (belowA _ (.cells #[.slice none 0 0, .slice none 0 0, .slice none 0 0] 38)))
  have HC1 := Lib.hid (CpH.new w1)
  rw [hb] at HC1
  have HWB : Hid (w.heap.size ≤ b) := Lib.hid (by rw [← hb]; exact HB1.out.size)
  clear hb HB1
  generalize (w1.alloc (.cells #[.slice none 0 0, .slice none 0 0, .slice none 0 0] 38)) = w2 at HW1 HC1 ⊢
  go_loopw [8] (fun i wr => ∃ (k : Nat) (C : Nat → List Ent) (V : Nat → Value), k ≤ n ∧ k ≤ 60 ∧ i = .int .i64 k ∧ Fam C ∧ CpH b C V wr ∧ Below w.heap.size w wr) (fun i _ => n - (intOf i).toNat)
  case atStart => exact ⟨0, _, _, by omega, by omega, rfl, Fam.nil, HC1.out, HW1.out⟩
  case round =>
    obtain ⟨k, C, V, hk, hk60, rfl, hfam, hcp, hbw⟩ := hrel
    have HF := Lib.hid hfam
    have HC := Lib.hid hcp
    have HW := Lib.hid hbw
    clear hfam hcp hbw HC1 HW1
    by_cases hlt : k < n ∧ k < 60
    case neg =>
      obtain ⟨A0, c0, hv0, hr0⟩ := HC.out.row 0
      obtain ⟨A1, c1, hv1, hr1⟩ := HC.out.row 1
      obtain ⟨A2, c2, hv2, hr2⟩ := HC.out.row 2
      have hbx := HC.out.box
      rw [hv0, hv1, hv2] at hbx
      have HBX := Lib.hid hbx
      have HR0 := Lib.hid hr0
      have HR1 := Lib.hid hr1
      have HR2 := Lib.hid hr2
      have HALL := Lib.hid (fun h => HF.out.all h)
      have HV01 := Lib.hid (HF.out.val2 0 1)
      have HC0 := Lib.hid (HF.out.card 0)
      have HC1 := Lib.hid (HF.out.card 1)
      have HC2 := Lib.hid (HF.out.card 2)
      have HNM := Lib.hid (fun h => HF.out.np_merge (k := 0) (r := 1) h 2)
      have l0 := HC0.out.len
      have l1' := HC1.out.len
      have l2' := HC2.out.len
      clear hv0 hv1 hv2 hbx hr0 hr1 hr2 HC HF
      generalize C 0 = E0 at *
      generalize C 1 = E1 at *
      generalize C 2 = E2 at *
      have X0 := ix38_0 b
      have X1 := ix38_1 b
      have X2 := ix38_2 b
      have cb := HBX.out.at
      rcases (show n ≤ k ∨ (k < n ∧ 60 ≤ k) by omega) with hend | ⟨hend, hend2⟩
      all_goals
        clear hlt
        go_wp2_with fail
        with_reducible refine (merge_any A0 A1 E0.length E1.length c0 c1 E0 E1 _ (Reads.of_own HR0.out) (Reads.of_own HR1.out) (by omega) (by omega) (card_shortT HC0.out) (card_shortT HC1.out)).mono ?_
        rintro _ w3 ⟨B3, d3, rfl, hr3, hb3⟩
        rotate_left
      all_goals
        have HW3 := Lib.hid (below_trans' HW.out hb3)
        replace HBX := Lib.hid (HBX.out.below hb3)
        replace HR0 := Lib.hid (row_on HR0.out hb3)
        replace HR1 := Lib.hid (row_on HR1.out hb3)
        replace HR2 := Lib.hid (row_on HR2.out hb3)
        have HR3 := Lib.hid hr3
        clear hr3 hb3 HW cb
        have hce := mrgE_zero HV01.out
        by_cases he : mrgE E0 E1 = 0
        case neg =>
          have he4 : mrgE E0 E1 = 4 := hce.resolve_left he
          rw [he4]
          clear he he4 hce
          go_wp2_with fail
          go_ret
          exact ⟨rfl, HW3.out⟩
        have HNM' := Lib.hid (HNM.out he)
        have HALL' := Lib.hid (HALL.out he)
        rw [he]
        obtain ⟨E3, hE3⟩ : ∃ l, mrgL E0 E1 = l := ⟨_, rfl⟩
        rw [hE3] at HNM' HALL' HR3 ⊢
        have hce := mrgE_zero HNM'.out
        have HC3 := Lib.hid (val2_zero.1 HNM'.out).1
        have l3 := HC3.out.len
        have cb := HBX.out.at
        clear he hE3 HNM HALL HV01
        go_wp2_with fail
        with_reducible refine (merge_any B3 A2 E3.length E2.length d3 c2 E3 E2 _ (Reads.of_own HR3.out) (Reads.of_own HR2.out) (by omega) (by omega) (card_shortT HC3.out) (card_shortT HC2.out)).mono ?_
        rintro _ w4 ⟨B4, d4, rfl, hr4, hb4⟩
        have HW4 := Lib.hid (below_trans' HW3.out hb4)
        replace HBX := Lib.hid (HBX.out.below hb4)
        replace HR0 := Lib.hid (row_on HR0.out hb4)
        replace HR1 := Lib.hid (row_on HR1.out hb4)
        replace HR2 := Lib.hid (row_on HR2.out hb4)
        have HR4 := Lib.hid hr4
        clear hr4 HR3
        clear hb4 HW3
        clear cb
        by_cases he : mrgE E3 E2 = 0
        case neg =>
          have he4 : mrgE E3 E2 = 4 := hce.resolve_left he
          rw [he4]
          clear he he4 hce
          go_wp2_with fail
          go_ret
          exact ⟨rfl, HW4.out⟩
        obtain ⟨q1, q2, q3, q4, q5, q6⟩ := HALL'.out he
        have Q1 := Lib.hid q1
        have Q2 := Lib.hid q2
        have Q3 := Lib.hid q3
        have HC4 := Lib.hid q4
        have HC5 := Lib.hid q5
        rw [he]
        clear he hce HALL' HNM' q1 q2 q3 q4 q5 q6
        obtain ⟨E4, hE4⟩ : ∃ l, mrgL E3 E2 = l := ⟨_, rfl⟩
        rw [hE4] at Q3 HC4 HR4 ⊢
        have l4 := HC4.out.len
        have l5 := HC5.out.len
        have cb := HBX.out.at
        clear hE4
        go_wp2_with fail
        with_reducible refine (merge_any A2 A1 E2.length E1.length c2 c1 E2 E1 _ (Reads.of_own HR2.out) (Reads.of_own HR1.out) (by omega) (by omega) (card_shortT HC2.out) (card_shortT HC1.out)).mono ?_
        rintro _ w5 ⟨B5, d5, rfl, hr5, hb5⟩
        rw [Q1.out]
        obtain ⟨E5, hE5⟩ : ∃ l, mrgL E2 E1 = l := ⟨_, rfl⟩
        rw [hE5] at Q2 Q3 HC5 hr5 l5 ⊢
        have HW5 := Lib.hid (below_trans' HW4.out hb5)
        replace HBX := Lib.hid (HBX.out.below hb5)
        replace HR0 := Lib.hid (row_on HR0.out hb5)
        replace HR1 := Lib.hid (row_on HR1.out hb5)
        replace HR2 := Lib.hid (row_on HR2.out hb5)
        have HR5 := Lib.hid hr5
        replace HR4 := Lib.hid (row_on HR4.out hb5)
        clear hr5 hE5 Q1
        clear hb5 HW4
        clear cb
        have cb := HBX.out.at
        go_wp2_with fail
        with_reducible refine (merge_any B5 A0 E5.length E0.length d5 c0 E5 E0 _ (Reads.of_own HR5.out) (Reads.of_own HR0.out) (by omega) (by omega) (card_shortT HC5.out) (card_shortT HC0.out)).mono ?_
        rintro _ w6 ⟨B6, d6, rfl, hr6, hb6⟩
        rw [Q2.out]
        rw [Q3.out] at hr6 ⊢
        have HW6 := Lib.hid (below_trans' HW5.out hb6)
        have HR6 := Lib.hid hr6
        replace HR4 := Lib.hid (row_on HR4.out hb6)
        clear hr6 hb6 HW5 HR5 HR0 HR1 HR2 HBX Q2 Q3 HC5 cb X0 X1 X2
        go_wp2_with fail
        with_reducible refine (Write_any B4 E4.length d4 E4 _ (Reads.of_own HR4.out) (by omega) (card_shortT HC4.out) (HM.out.below HW6.out).tab).mono ?_
        rintro _ w7 ⟨rfl, hb7⟩
        have HW7 := Lib.hid (below_trans' HW6.out hb7)
        replace HR4 := Lib.hid (row_on HR4.out hb7)
        replace HR6 := Lib.hid (row_on HR6.out hb7)
        clear hb7 HW6
        obtain ⟨t, ht⟩ : ∃ t : ByteArray, (⟨(wrX E4).toArray⟩ : ByteArray) = t := ⟨_, rfl⟩
        have HT : Hid (t.data.toList = writeL E4) := Lib.hid (by rw [← ht]; exact wr_text HC4.out)
        have hts : t.size ≤ 4560 := wr_size HC4.out HT.out
        rw [ht, val_zero.2 HC4.out]
        clear ht
        go_wp2_with fail
        with_reducible refine (same_refl B4 B6 E4.length E4.length d4 d6 E4 _ (Reads.of_own HR4.out) (Reads.of_own HR6.out) (by omega)).mono ?_
        rintro _ w8 ⟨rfl, hb8⟩
        have HW8 := Lib.hid (below_trans' HW7.out hb8)
        replace HR4 := Lib.hid (row_on HR4.out hb8)
        clear hb8 HW7 HR6
        go_wp2_with fail
        with_reducible refine (within_any keep t.size _ (by omega)).mono ?_
        rintro _ _ ⟨rfl, rfl⟩
        obtain ⟨K, hK⟩ : ∃ K, wi keep t.size = K := ⟨_, rfl⟩
        have HK := Lib.hid hK
        have hKle : K ≤ t.size := by rw [← hK]; exact (wi_le keep (by omega)).1
        rw [hK]
        clear hK
        have hK0 : (0 : Int) ≤ (K : Int) := by omega
        have hK1 : (K : Int) ≤ (t.size : Int) := by omega
        go_wp2_with fail
        obtain ⟨p, hp⟩ : ∃ p, t.extract 0 K = p := ⟨_, rfl⟩
        have HPK := Lib.hid hp
        rw [hp]
        have HP : Hid (p.data.toList <+: writeL E4) := Lib.hid (by rw [← hp, ← HT.out]; exact cut_head _ _)
        have hps : p.size ≤ 4560 := by rw [← hp]; simp; omega
        clear hp
        with_reducible refine (read8_any p _ (by omega) (HM.out.below HW8.out)).mono ?_
        rintro _ w9 ⟨fs, m, B9, d9, hR, rfl, hr9, hb9⟩
        have HR := Lib.hid hR
        have HO := Lib.hid (torn_head HC4.out HP.out hR)
        have HR9 := Lib.hid hr9
        have HW9 := Lib.hid (below_trans' HW8.out hb9)
        replace HR4 := Lib.hid (row_on HR4.out hb9)
        obtain ⟨rest, hrest⟩ : ∃ r, p.extract m p.size = r := ⟨_, rfl⟩
        have HREST := Lib.hid hrest
        rw [hrest]
        clear hR hrest hr9 hb9 HW8 HP
        have hfl : fs.length ≤ 60 := HR.out.card.len
        go_wp2_with fail
        with_reducible refine (merge_any B4 B9 E4.length fs.length d4 d9 E4 fs _ (Reads.of_own HR4.out) (Reads.of_own HR9.out) (by omega) (by omega) (card_shortT HC4.out) (card_shortT HR.out.card)).mono ?_
        rintro _ w10 ⟨B10, d10, rfl, hr10, hb10⟩
        have HMG := torn_merge' HC4.out HR.out.card HO.out
        rw [HMG.2] at hr10
        rw [HMG.1, HMG.2]
        have HR10 := Lib.hid hr10
        replace HR9 := Lib.hid (row_on HR9.out hb10)
        replace HR4 := Lib.hid (row_on HR4.out hb10)
        have HW10 := Lib.hid (below_trans' HW9.out hb10)
        clear hr10 hb10 HMG HW9
        go_wp2_with fail
        with_reducible refine (Write_any B9 fs.length d9 fs _ (Reads.of_own HR9.out) (by omega) (card_shortT HR.out.card) (HM.out.below HW10.out).tab).mono ?_
        rintro _ w11 ⟨rfl, hb11⟩
        replace HR10 := Lib.hid (row_on HR10.out hb11)
        replace HR4 := Lib.hid (row_on HR4.out hb11)
        have HW11 := Lib.hid (below_trans' HW10.out hb11)
        clear hb11 HW10 HR9
        obtain ⟨hd, hhd⟩ : ∃ t : ByteArray, (⟨(wrX fs).toArray⟩ : ByteArray) = t := ⟨_, rfl⟩
        have HHD : Hid (hd.data.toList = writeL fs) := Lib.hid (by rw [← hhd]; exact wr_text HR.out.card)
        have HAP : Hid (hd ++ rest = p) := Lib.hid (by rw [← HREST.out]; exact max_wr HR.out HHD.out)
        have hhs : hd.size ≤ 4560 := wr_size HR.out.card HHD.out
        have hres : rest.size ≤ 4560 := by rw [← HREST.out]; simp; omega
        rw [hhd, val_zero.2 HR.out.card]
        clear hhd
        go_wp2_with fail
        with_reducible refine (same_refl B10 B4 E4.length E4.length d10 d4 E4 _ (Reads.of_own HR10.out) (Reads.of_own HR4.out) (by omega)).mono ?_
        rintro _ w12 ⟨rfl, hb12⟩
        have HW12 := Lib.hid (below_trans' HW11.out hb12)
        clear hb12 HW11 HR10 HR4
        go_wp2_with fail
        with_reducible refine (within_any keep t.size _ (by omega)).mono ?_
        rintro _ _ ⟨rfl, rfl⟩
        rw [HK.out]
        have gA := HAP.out
        have gB := HPK.out
        go_wp2_with fail
        go_ret
        exact ⟨rfl, HW12.out⟩
    obtain ⟨hlt, hlt2⟩ := hlt
    obtain ⟨ad, d, e1, hbk, hd, d0, d1, d2⟩ := deat (HL.out.on HW.out) (k := k) (by omega)
    have X := fun w => ix36 (c := c) e1 hlt w
    clear hd e1
    go_wp2_with fail
    with_reducible refine (within2 _ _).mono ?_
    rintro _ _ ⟨rfl, rfl⟩
    obtain ⟨T, hT⟩ : ∃ T, wi d.2.1 2 = T := ⟨_, rfl⟩
    have hT3 : T < 3 := by have := (wi_le d.2.1 (n := 2) (by omega)).1; omega
    rw [hT]
    clear hT X d0 d1 d2
    obtain ⟨dq, hdq⟩ : ∃ q, wr.heap.size = q := ⟨_, rfl⟩
    have HQ : Hid (Box (wr.alloc (.cells #[.int .i64 d.1, .int .i64 d.2.1, .string d.2.2] 40)) dq #[.int .i64 d.1, .int .i64 d.2.1, .string d.2.2]) := Lib.hid (by rw [← hdq]; exact Box.new _ _ _)
    have HCA := Lib.hid (HC.out.on (belowA wr (.cells #[.int .i64 d.1, .int .i64 d.2.1, .string d.2.2] 40)))
    have HWA := Lib.hid (below_trans' HW.out (belowA wr (.cells #[.int .i64 d.1, .int .i64 d.2.1, .string d.2.2] 40)))
    have HSZ : Hid (b + 1 ≤ dq) := Lib.hid (by have := HC.out.box.1; omega)
    have HQ1 : Hid (dq + 1 ≤ (wr.alloc (.cells #[.int .i64 d.1, .int .i64 d.2.1, .string d.2.2] 40)).heap.size) := Lib.hid (by have := HQ.out.1; omega)
    rw [hdq]
    clear hdq HC HW hbk
    generalize (wr.alloc (.cells #[.int .i64 d.1, .int .i64 d.2.1, .string d.2.2] 40)) = w3 at HQ HCA HWA HQ1 ⊢
    have c0 := HQ.out.at
    by_cases htx : d.2.2.size ≤ 200
    case neg =>
      go_wp2_with fail
      go_roundw
      case rel => exact ⟨k + 1, C, V, by omega, by omega, by go_num, HF.out, HCA.out, HWA.out⟩
      case measure => simp [intOf]; omega
    go_wp2_with fail
    have X := ix38 b T hT3
    obtain ⟨AT, cT, hcell, hrd⟩ := HCA.out.at hT3
    have HRD := Lib.hid hrd
    have hlenT := (HF.out.card T).len
    have cr := HQ.out.rg
    have ct := rg_cell hcell
    clear hrd
    refine wp_region_mid 6 mixed (by kernel_rfl) rfl ?_
    simp only [List.take_succ_cons, List.take_zero, List.drop_succ_cons, List.drop_zero]
    repeat (go_big_quiet_step (fail))
    refine wpQuiet_nil ?_
    intro w4 hb4
    have HC4 := Lib.hid (HCA.out.on hb4)
    have HW4 := Lib.hid (below_trans' HWA.out hb4)
    have HQ4 := Lib.hid (HQ.out.below hb4)
    have HRD4 := Lib.hid (HRD.out.on hb4)
    have HQ5 : Hid (dq + 1 ≤ w4.heap.size) := Lib.hid (by have := HQ1.out; have := hb4.size; omega)
    clear hb4 c0 cr ct hcell HCA HWA HQ HRD HQ1
    go_wp2_with fail
    with_reducible refine (add_any AT (C T).length cT (C T) T d.2.2 _ HRD4.out (by omega) (card_shortT (HF.out.card T)) (by omega)).mono ?_
    rintro _ w5a ⟨B5, d5, rfl, hr5a, hb5a⟩
    go_wp2_with fail
    simp only [Thn]
    repeat (go_big_quiet_step (fail))
    refine wpQuiet_nil ?_
    intro w5 hb5b
    have hb5 := below_trans' hb5a hb5b
    have hr5 := row_on hr5a hb5b
    clear hr5a hb5a hb5b
    have HC5 := Lib.hid (HC4.out.on hb5)
    have HW5 := Lib.hid (below_trans' HW4.out hb5)
    have HQ6 := Lib.hid (HQ4.out.below hb5)
    have HR5 := Lib.hid hr5
    have HS5 : Hid (b + 1 ≤ w4.heap.size) := Lib.hid (by have := HQ5.out; have := HSZ.out; omega)
    have hb5s := Lib.hid hb5.size
    clear hr5 hb5 HC4 HW4 HQ4 HRD4 HQ5 X
    have hce := addE_cases (HF.out.card T) T d.2.2
    have HNX := Lib.hid (fun h => HF.out.add hT3 (t := d.2.2) h)
    obtain ⟨l, hll⟩ : ∃ l, addL' (C T) T d.2.2 = l := ⟨_, rfl⟩
    obtain ⟨e, hee⟩ : ∃ e, addE (C T) T d.2.2 = e := ⟨_, rfl⟩
    rw [hll] at HR5 HNX ⊢
    rw [hee] at HNX hce ⊢
    clear hll hee
    have c0 := HQ6.out.at
    cases hem : d.2.2.toList.isEmpty
    case' false =>
      have HC6 := HC5
      have HW6 := HW5
      obtain ⟨B6, hB6⟩ : ∃ x, B5 = x := ⟨_, rfl⟩
      obtain ⟨d6, hd6⟩ : ∃ x, d5 = x := ⟨_, rfl⟩
      rw [hB6, hd6] at HR5 ⊢
      have HR6 := Lib.hid (row_mono HR5.out HS5.out)
      clear HC5 HW5 HR5 HQ6
      have g1 : (e == 12) = false := by rcases hce with h | h | h <;> (rw [h]; rfl)
      have g2 : (e == 11) = false := by rcases hce with h | h | h <;> (rw [h]; rfl)
      clear hce
      by_cases he : e = 0
      case neg =>
        have g3 := neB he
        clear he
        go_wp2_with fail
        go_roundw
        case rel => exact ⟨k + 1, C, V, by omega, by omega, by go_num, HF.out, HC6.out, HW6.out⟩
        case measure => simp [intOf]; omega
      subst he
      obtain ⟨hf6, hs6, hk6⟩ := HNX.out rfl
      have HF6 := Lib.hid hf6
      have HS6 := Lib.hid hs6
      have HK6 := Lib.hid hk6
      have hl60 := hk6.len
      clear hf6 hs6 hk6 HNX g1 g2
      go_wp2_with fail
      with_reducible refine (validate_any B6 l.length d6 l _ (Reads.of_own HR6.out) (by omega) (card_shortT HK6.out)).mono ?_
      rintro _ w7 ⟨rfl, hb7⟩
      rw [val_zero.2 HK6.out]
      have HC7 := Lib.hid (HC6.out.on hb7)
      have HW7 := Lib.hid (below_trans' HW6.out hb7)
      have HR7 := Lib.hid (row_on HR6.out hb7)
      obtain ⟨A7, c7, hcell7, hrd7⟩ := HC7.out.at hT3
      have HRD7 := Lib.hid hrd7
      have X := ix38 b T hT3
      clear hb7 hrd7 HC6 HW6 HR6
      go_wp2_with fail
      with_reducible refine (grown_any A7 B6 (C T).length l.length c7 d6 (C T) l _ HRD7.out (Reads.of_own HR7.out) (by omega) (by omega) (card_shortT (HF.out.card T)) (card_shortT HK6.out) (sub_val2 (HF.out.card T) HK6.out HS6.out) HS6.out).mono ?_
      rintro _ w8 ⟨rfl, hb8⟩
      have HC8 := Lib.hid (HC7.out.on hb8)
      have HW8 := Lib.hid (below_trans' HW7.out hb8)
      have HR8 := Lib.hid (row_on HR7.out hb8)
      have f8 := HC8.out.fz
      obtain ⟨A8, c8, hcell8, hrd8⟩ := HC8.out.at hT3
      clear hb8 hrd8 HC7 HW7 HR7 hcell7 HRD7
      go_wp2_with fail
      go_roundw
      case rel => exact ⟨k + 1, _, _, by omega, by omega, by go_num, HF6.out, HC8.out.set hT3 HR8.out, HW8.out.setCell (p := ⟨b, T, none⟩) HWB.out _⟩
      case measure => simp [intOf]; omega
    case' true =>
      clear hce HNX HR5
      obtain ⟨F, hF⟩ : ∃ F, wi d.1 2 = F := ⟨_, rfl⟩
      have hF3 : F < 3 := by have := (wi_le d.1 (n := 2) (by omega)).1; omega
      have X := ix38 b T hT3
      have Y := ix38 b F hF3
      obtain ⟨AT5, cT5, hcell, hrd⟩ := HC5.out.at hT3
      obtain ⟨AF, cF, hcellF, hrdF⟩ := HC5.out.at hF3
      have HRD := Lib.hid hrd
      have HRDF := Lib.hid hrdF
      have hlenF := (HF.out.card F).len
      have cr := HQ6.out.rg
      have ct := rg_cell hcell
      have cf := rg_cell hcellF
      have Q0 : Hid (∀ w, Below w5.heap.size w5 w → Calls Tryz.prog 16 #[.int .i64 d.1, .int .i64 2] w fun r w' => r = .returned (.int .i64 F) ∧ Below w.heap.size w w') := Lib.hid fun w _ => (within2 d.1 w).mono fun r w' ⟨h1, h2⟩ => by subst h2; rw [← hF]; exact ⟨h1, Below.refl _ _⟩
      clear hrd hrdF hF
      go_wp2_with fail
      refine wp_region_mid 8 mixed (by kernel_rfl) rfl ?_
      simp only [List.take_succ_cons, List.take_zero, List.drop_succ_cons, List.drop_zero]
      repeat (go_big_quiet_step (with_reducible exact rg_call Q0.out _ _))
      refine wpQuiet_nil ?_
      intro w6 hb6
      have HC5b := Lib.hid (HC5.out.on hb6)
      have HW5b := Lib.hid (below_trans' HW5.out hb6)
      have HS6 : Hid (b + 1 ≤ w6.heap.size) := Lib.hid (by have := HS5.out; have := hb5s.out; have := hb6.size; omega)
      have HRDb := Lib.hid (HRD.out.on hb6)
      have HRDFb := Lib.hid (HRDF.out.on hb6)
      clear hb6 c0 cr ct cf hcell hcellF HC5 HW5 HRD HRDF HQ6 Q0 X Y hem
      go_wp2_with fail
      with_reducible refine (merge_any AT5 AF (C T).length (C F).length cT5 cF (C T) (C F) _ HRDb.out HRDFb.out (by omega) (by omega) (card_shortT (HF.out.card T)) (card_shortT (HF.out.card F))).mono ?_
      rintro _ w7a ⟨B6, d6, rfl, hr6a, hb6a⟩
      go_wp2_with fail
      simp only [Thn]
      repeat (go_big_quiet_step (fail))
      refine wpQuiet_nil ?_
      intro w7' hb6b
      have hb6 := below_trans' hb6a hb6b
      have hr6 := row_on hr6a hb6b
      clear hr6a hb6a hb6b
      have HC6 := Lib.hid (HC5b.out.on hb6)
      have HW6 := Lib.hid (below_trans' HW5b.out hb6)
      have HR6 := Lib.hid (row_mono hr6 HS6.out)
      have hce : mrgE (C T) (C F) = 0 ∨ mrgE (C T) (C F) = 1 ∨ mrgE (C T) (C F) = 4 := (mrgE_zero (HF.out.val2 T F)).elim .inl fun h => .inr (.inr h)
      have HNX := Lib.hid (fun h => HF.out.merge (k := T) (r := F) h)
      clear hr6 hb6 HC5b HW5b HRDb HRDFb HS6
      obtain ⟨l, hll⟩ : ∃ l, mrgL (C T) (C F) = l := ⟨_, rfl⟩
      obtain ⟨e, hee⟩ : ∃ e, mrgE (C T) (C F) = e := ⟨_, rfl⟩
      rw [hll] at HR6 HNX ⊢
      rw [hee] at HNX hce ⊢
      clear hll hee
      have g1 : (e == 12) = false := by rcases hce with h | h | h <;> (rw [h]; rfl)
      have g2 : (e == 11) = false := by rcases hce with h | h | h <;> (rw [h]; rfl)
      clear hce
      by_cases he : e = 0
      case neg =>
        have g3 := neB he
        clear he
        go_wp2_with fail
        go_roundw
        case rel => exact ⟨k + 1, C, V, by omega, by omega, by go_num, HF.out, HC6.out, HW6.out⟩
        case measure => simp [intOf]; omega
      subst he
      obtain ⟨hf6, hs6, hk6⟩ := HNX.out rfl
      have HF6 := Lib.hid hf6
      have HS6 := Lib.hid hs6
      have HK6 := Lib.hid hk6
      have hl60 := hk6.len
      clear hf6 hs6 hk6 HNX g1 g2
      go_wp2_with fail
      with_reducible refine (validate_any B6 l.length d6 l _ (Reads.of_own HR6.out) (by omega) (card_shortT HK6.out)).mono ?_
      rintro _ w7 ⟨rfl, hb7⟩
      rw [val_zero.2 HK6.out]
      have HC7 := Lib.hid (HC6.out.on hb7)
      have HW7 := Lib.hid (below_trans' HW6.out hb7)
      have HR7 := Lib.hid (row_on HR6.out hb7)
      obtain ⟨A7, c7, hcell7, hrd7⟩ := HC7.out.at hT3
      have HRD7 := Lib.hid hrd7
      have X := ix38 b T hT3
      clear hb7 hrd7 HC6 HW6 HR6
      go_wp2_with fail
      with_reducible refine (grown_any A7 B6 (C T).length l.length c7 d6 (C T) l _ HRD7.out (Reads.of_own HR7.out) (by omega) (by omega) (card_shortT (HF.out.card T)) (card_shortT HK6.out) (sub_val2 (HF.out.card T) HK6.out HS6.out) HS6.out).mono ?_
      rintro _ w8 ⟨rfl, hb8⟩
      have HC8 := Lib.hid (HC7.out.on hb8)
      have HW8 := Lib.hid (below_trans' HW7.out hb8)
      have HR8 := Lib.hid (row_on HR7.out hb8)
      have f8 := HC8.out.fz
      obtain ⟨A8, c8, hcell8, hrd8⟩ := HC8.out.at hT3
      clear hb8 hrd8 HC7 HW7 HR7 hcell7 HRD7
      go_wp2_with fail
      go_roundw
      case rel => exact ⟨k + 1, _, _, by omega, by omega, by go_num, HF6.out, HC8.out.set hT3 HR8.out, HW8.out.setCell (p := ⟨b, T, none⟩) HWB.out _⟩
      case measure => simp [intOf]; omega
end Go.Proofs.YtnlhllleipemlaaGreatDoor
