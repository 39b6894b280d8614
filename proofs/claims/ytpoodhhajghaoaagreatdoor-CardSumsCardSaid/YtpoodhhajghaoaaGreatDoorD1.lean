/- Walks: entries compared, cloned, sorted. -/
import Derived.Test.YtpoodhhajghaoaaGreatDoorSh
import Derived.Test.YtpoodhhajghaoaaGreatDoorSk
import Derived.Test.YtpoodhhajghaoaaGreatDoorCm
namespace Go.Proofs.YtpoodhhajghaoaaGreatDoor
open Go.RowKit Go.Sort Go.Lib

def cmpI (a b : Int) : Int := if a < b then -1 else if b < a then 1 else 0
def or0 (l : List Int) : Int := (l.find? fun z => z != 0).getD 0
theorem isNaN_any (n : Int) (w : World) : Calls Tryz.prog 49 #[.int .i64 n] w fun e w' => e = .returned (.bool false) ∧ w = w' := by
  go_enter Tryz.func49, Tryz.ntmps49
  go_wp2
  go_ret
  exact ⟨by simp, rfl⟩
theorem cmpI_any (a b : Int) (w : World) : Calls Tryz.prog 29 #[.int .i64 a, .int .i64 b] w fun e w' => e = .returned (.int .i64 (cmpI a b)) ∧ w = w' := by
  go_enter Tryz.func29, Tryz.ntmps29
  go_wp2_with (go_at_call 49; refine (isNaN_any _ _).mono ?_; rintro e w' ⟨rfl, rfl⟩)
  all_goals go_ret
  all_goals exact ⟨ret_int (by unfold cmpI; split <;> (try split) <;> omega), rfl⟩
theorem or_any (A : Option Addr) (n c : Nat) (zs : List Int) (w : World) (hr : Reads w w.heap.size 1 A n (ints zs)) (hn : n ≤ 9223372036854775807) :
    Calls Tryz.prog 28 #[.slice A n c] w fun e w' => e = .returned (.int .i64 (or0 zs)) ∧ w = w' := by
  have hl := hr.1
  rw [ints_length] at hl
  have l1 : n ≤ zs.length := by omega
  have l2 : zs.length ≤ n := by omega
  clear hl
  go_enter Tryz.func28, Tryz.ntmps28
  go_wp2
  go_loop [8] (fun i => ∃ k : Nat, k ≤ n ∧ i = .int .i64 k ∧ or0 zs = or0 (zs.drop k)) (fun i => n - (intOf i).toNat)
  case atStart => exact ⟨0, by omega, rfl, rfl⟩
  case round =>
    obtain ⟨k, hk, rfl, hno0⟩ := hrel
    have hno := Lib.hid hno0
    clear hno0
    by_cases hlt : k < n
    · obtain ⟨ad, z, e1, hbk, hx0, c0⟩ := dsat hr (k := k) (by omega)
      have hx := Lib.hid hx0
      clear hx0
      have hd : zs.drop k = z :: zs.drop (k + 1) := by
        have hlt' : k < zs.length := by omega
        rw [List.drop_eq_getElem_cons hlt']
        have := hx.out
        rw [List.getElem?_eq_getElem hlt'] at this
        rw [Option.some.inj this]
      have hD := Lib.hid hd
      clear hd
      by_cases hz : z = 0
      · subst hz
        go_wp2
        go_round
        case rel => exact ⟨k + 1, by omega, by go_num, by rw [hno.out, hD.out]; simp [or0]⟩
        case measure => simp [intOf]; omega
      · have hz1 : (z != 0) = true := by simpa using hz
        have hf := Lib.hid (show or0 zs = z by rw [hno.out, hD.out]; simp [or0, hz])
        go_wp2
        go_ret
        exact ⟨ret_int hf.out.symm, rfl⟩
    · have hf := Lib.hid (show or0 zs = 0 by rw [hno.out, List.drop_eq_nil_of_le (by omega)]; rfl)
      go_wp2
      go_ret
      exact ⟨ret_int hf.out.symm, rfl⟩


def cmpK (a b : Ent) : Int := or0 [cmpI a.1 b.1, cmpI a.2.1 b.2.1]
theorem cmpK_neg (x y : Ent) : cmpK x y < 0 ↔ keyLt x y := by
  unfold cmpK keyLt or0 cmpI
  by_cases h1 : x.1 < y.1
  · simp [h1]
  · by_cases h2 : y.1 < x.1
    · simp [h1, h2]; omega
    · have h3 : x.1 = y.1 := by omega
      by_cases h4 : x.2.1 < y.2.1
      · simp [h3, h4]
      · by_cases h5 : y.2.1 < x.2.1
        · simp [h3, h4, h5]
        · simp [h3, h4, h5]
theorem cmpK_grow (a b : Ent) (w : World) :
    Calls Tryz.prog 22 #[eval_ a, eval_ b] w fun r w' => r = .returned (.int .i64 (cmpK a b)) ∧ ∃ q os', w' = grow (w.drewN q) os' := by
  go_enter Tryz.func22, Tryz.ntmps22
  dsimp only [eval_]
  go_wp2_with fail
  refine wp_gen (fun w1 => Box w1 w.heap.size #[.int .i64 a.1, .int .i64 a.2.1, .int .i64 a.2.2.1.1, .int .i64 a.2.2.1.2.1, .int .i64 a.2.2.1.2.2, .string a.2.2.2] ∧ Box w1 (w.heap.size + 1) #[.int .i64 b.1, .int .i64 b.2.1, .int .i64 b.2.2.1.1, .int .i64 b.2.2.1.2.1, .int .i64 b.2.2.1.2.2, .string b.2.2.2] ∧ Hid (∃ os, w1 = grow w os)) ⟨(Box.new _ _ _).alloc _, Box.new2 _ _ _ _ _, Lib.hid ⟨_, by rw [alloc_eq_grow, alloc_eq_grow, grow_grow]⟩⟩ ?_
  rintro w1 ⟨b0, b1, hg⟩
  have c0 := b0.at
  have c1 := b1.at
  go_region_held3 (fun w' => (∀ i, w'.cell? ⟨w.heap.size, i, none⟩ = (#[.int .i64 a.1, .int .i64 a.2.1, .int .i64 a.2.2.1.1, .int .i64 a.2.2.1.2.1, .int .i64 a.2.2.1.2.2, .string a.2.2.2] : Array Value)[i]?) ∧ (∀ i, w'.cell? ⟨w.heap.size + 1, i, none⟩ = (#[.int .i64 b.1, .int .i64 b.2.1, .int .i64 b.2.2.1.1, .int .i64 b.2.2.1.2.1, .int .i64 b.2.2.1.2.2, .string b.2.2.2] : Array Value)[i]?)) (first | exact ⟨c0, c1⟩ | exact ⟨(b0.alloc _).at, (b1.alloc _).at⟩)
    (first | (go_at_call 29; refine (cmpI_any _ _ _).mono ?_; rintro e w' ⟨rfl, rfl⟩) | (go_at_call 28; refine (or_any _ 2 2 [cmpI a.1 b.1, cmpI a.2.1 b.2.1] _ ((reads_new w1 (ints [cmpI a.1 b.1, cmpI a.2.1 b.2.1]) 3 1 2 rfl).drew) (by omega)).mono ?_; rintro e w' ⟨rfl, rfl⟩))
  go_wp2
  go_ret
  refine ⟨rfl, 1, ?_⟩
  obtain ⟨os, rfl⟩ := hg.out
  exact ⟨_, by rw [alloc_eq_grow, grow_grow, drew_grow]; rfl⟩
theorem below_drewGrow (w : World) (q : Nat) (os : Array Obj) : Below w.heap.size w (grow (w.drewN q) os) :=
  ⟨rfl, rfl, rfl, by first | (simp [grow]; done) | (simp [grow]; omega), fun i hi => by
    show ((w.drewN q).heap ++ os)[i]? = _
    rw [Array.getElem?_append_left (by show i < w.heap.size; omega)]
    rfl⟩
theorem cmpK_any (a b : Ent) (w : World) : Calls Tryz.prog 22 #[eval_ a, eval_ b] w fun r w' => r = .returned (.int .i64 (cmpK a b)) ∧ Below w.heap.size w w' :=
  (cmpK_grow a b w).mono fun r w' ⟨h1, q, os, hw⟩ => ⟨h1, by rw [hw]; exact below_drewGrow w q os⟩
theorem ltOf_cmpK (x y : Ent) : ltOf cmpK x y = decide (keyLt x y) := by
  unfold ltOf
  rw [decide_eq_decide]
  exact cmpK_neg x y
theorem swoK : SWO (ltOf cmpK) where
  irrefl x := by rw [ltOf_cmpK]; simp [keyLt_irrefl]
  trans x y z h1 h2 := by rw [ltOf_cmpK] at *; simp at *; exact keyLt_trans h1 h2
  ntrans x y z h1 h2 := by
    rw [ltOf_cmpK] at *
    simp only [decide_eq_false_iff_not] at *
    unfold keyLt at *
    omega
theorem isAgg53 : ∀ w, (isAgg 38).run Tryz.prog w = .ok true w := fun _ => by kernel_rfl
theorem sizeOf53 : ∀ w, (Go.sizeOf 38).run Tryz.prog w = .ok 6 w := fun _ => by kernel_rfl
theorem info53b : (Tryz.prog.info? 38).map (fun i => (i.zero, i.size, i.bytes)) = some (some (.agg #[.int .i64 0, .int .i64 0, .int .i64 0, .int .i64 0, .int .i64 0, .string ⟨#[]⟩]), 6, 56) := by kernel_rfl
set_option maxRecDepth 4000 in
theorem clone_any (A : Option Addr) (n c : Nat) (es : List Ent) (w : World) (hl : Reads w w.heap.size 6 A n (ents es)) (hn : n ≤ 1000000) :
    Calls Tryz.prog 20 #[.slice A n c] w (RetRow 38 6 n (ents es) w) := by
  have HL := Lib.hid hl
  cases A with
  | none =>
    have h0 : n = 0 := by
      rcases Nat.eq_zero_or_pos n with h | h
      · exact h
      · obtain ⟨p, hp, _⟩ := hl.look h; cases hp
    subst h0
    clear hl
    have N0 := fun w => Lib.run_eql_slice_nil (P := Tryz.prog) w 22 38 none 0 c 0 0 Tryz.underlying22
    go_enter Tryz.func20, Tryz.ntmps20
    go_wp2_with fail
    go_ret
    have : ents es = [] := List.eq_nil_of_length_eq_zero (by have := HL.out.len; simpa using this)
    exact ⟨none, 0, rfl, by rw [this]; exact World.ownsRow_nil _ _ _ _, Below.refl _ _⟩
  | some ad =>
    clear hl
    have hlen : n ≤ 1000000000 := by omega
    have N0 := fun w => Lib.run_eql_slice_nil (P := Tryz.prog) w 22 38 (some ad) n c 0 0 Tryz.underlying22
    go_enter Tryz.func20, Tryz.ntmps20
    go_wp2_with (at_builtin; refine wpList_copyR rfl _ _ 22 38 rfl Tryz.underlying22 info53b rfl (by omega) (by omega) w rfl rfl HL.out (ents_one _) hlen ?_; intro B d w1 hr1 hb1; have HR1 := Lib.hid hr1; have HB1 := Lib.hid hb1; clear hr1 hb1)
    go_ret
    exact ⟨B, d, rfl, HR1.out, HB1.out⟩
theorem sort_none (A : Option Addr) (c : Nat) (w : World) :
    Calls Tryz.prog 21 #[.slice A 0 c, .func (.func 22) #[] #[]] w fun r w' => r = .returned (.tuple #[]) ∧ w' = w :=
  AnyF.slices_SortFunc_none sortLay A c _ w
theorem sort_any {bl : Nat} (A : Option Addr) (n c : Nat) (es : List Ent) (w : World) (h : w.ownsRow bl 38 6 (.slice A n c) n (ents es)) (hn : n ≤ 1000000) :
    Calls Tryz.prog 21 #[.slice A n c, .func (.func 22) #[] #[]] w fun r w' => r = .returned (.tuple #[]) ∧ ∃ es' : List Ent, es'.Perm es ∧ (es'.Pairwise fun x y => ¬ keyLt y x) ∧ w'.ownsRow bl 38 6 (.slice A n c) n (ents es') ∧ w.grownBy w' (Value.slice A n c).ownBlock := by
  have hl := h.1
  rw [ents_length] at hl
  have hle : es.length = n := by omega
  rcases h.2 with ⟨hv, h0⟩ | ⟨g, cap, cur, hv, hb, hh, hnc, hcm, hcs, hct⟩
  · injection hv with e1 e2 e3
    subst e1 h0 e3
    obtain rfl : es = [] := List.eq_nil_of_length_eq_zero hle
    exact (sort_none none 0 w).mono fun r w' ⟨h1, h2⟩ => ⟨h1, [], List.Perm.refl _, List.Pairwise.nil, by rw [h2]; exact h, by rw [h2]; exact ⟨rfl, rfl, rfl, Nat.le_refl _, fun _ _ _ => rfl⟩⟩
  · injection hv with e1 e2 e3
    subst e1 e3
    have hH : HoldsK ecells 6 w g 0 es.toArray := holdsK_of_row (enc := ecells) (k := 6) (fun _ => rfl) hh (by rw [hle]; exact hct)
    have hg : g < w.heap.size := (Array.getElem?_eq_some_iff.1 hh).1
    have hs := AnyQ.slices_SortFunc sortLay 6 isAgg53 sizeOf53 ecells (fun _ => rfl) (fun x v hv => by simp [ecells] at hv; rcases hv with rfl | rfl | rfl | rfl | rfl | rfl <;> rfl) cmpK swoK 22 #[] g 0 c es.toArray w
      (enters_of Tryz.func22 (by kernel_rfl) rfl) (fun _ _ _ _ x y => cmpK_grow x y _) hH hg (by simp; omega)
    have hsz : es.toArray.size = n := by simp [hle]
    rw [hsz] at hs
    refine hs.mono fun r w' ⟨h1, d', m, os, hp, hso, hw⟩ => ⟨h1, d'.toList, ?_, ?_, ?_, ?_⟩
    · obtain ⟨p1, _, p3⟩ := hp
      rw [show d'.extract 0 n = d' by rw [← hsz, ← p1]; simp, show es.toArray.extract 0 n = es.toArray by rw [← hsz]; simp] at p3
      simpa using p3
    · have q1 : d'.size = n := by rw [hp.1, hsz]
      rw [List.pairwise_iff_getElem]
      intro i j hi hj hij
      have := hso i j (Nat.zero_le _) hij (by simpa [q1] using hj)
      rw [ltOf_cmpK, decide_eq_false_iff_not] at this
      simp only [Array.length_toList] at hi hj
      simpa [getElem!_pos, hi, hj] using this
    · rw [hw]
      have := ownsRow_sortedK (enc := ecells) (k := 6) (fun _ => rfl) (w := w) (base := bl) (g := g) (cap := c) (m := m) (e := 38) (os := os) (l := es) (t := d'.toList) (by rw [Array.length_toList, hp.1]; simp) hb hh (by omega) hcm hcs
      rw [hle] at this
      exact this
    · rw [hw]; exact grownBy_sortedK _
end Go.Proofs.YtpoodhhajghaoaaGreatDoor
