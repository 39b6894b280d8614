/- Merged texts: Cv Cm D1 -/
import Derived.Test.YtihhclhpjgeniaaGreatDoorSB2
import Derived.Test.YtihhclhpjgeniaaGreatDoorSB3
namespace Go.Proofs.YtihhclhpjgeniaaGreatDoor
open Go.RowKit Go.Sort
def badP (es : List Ent) (e : Ent) (p : Nat) : Prop := ((p : Int) = e.1 ∧ e.sn p ≠ e.2.1 - 1) ∨ e.sn p < 0 ∨ (clk es p : Int) < e.sn p
instance (es : List Ent) (e : Ent) (p : Nat) : Decidable (badP es e p) := by unfold badP; infer_instance
def lowE (e f : Ent) : Prop := ∃ p : Nat, p < 3 ∧ e.sn p < f.sn p
instance (e f : Ent) : Decidable (lowE e f) := by unfold lowE; infer_instance
def wrong (es : List Ent) (e : Ent) : Prop := (∃ p : Nat, p < 3 ∧ badP es e p) ∨ ∃ f ∈ es, sawE e f = true ∧ lowE e f
instance (es : List Ent) (e : Ent) : Decidable (wrong es e) := by unfold wrong; infer_instance
def okT (e : Ent) : Prop := 0 ≤ e.1 ∧ e.1 ≤ 2 ∧ right e.2.2.2 = true
instance (e : Ent) : Decidable (okT e) := by unfold okT; infer_instance
def ordR : List Ent → Prop
 | [] => True
 | e :: l => ordR l ∧ (∀ f ∈ l, f.1 ≤ e.1) ∧ e.2.1 = clk l e.1 + 1
instance ordR_dec : ∀ l, Decidable (ordR l)
 | [] => .isTrue trivial
 | e :: l => by
  have := ordR_dec l
  unfold ordR
  infer_instance
def Ord (es : List Ent) : Prop := ordR es.reverse
instance (es : List Ent) : Decidable (Ord es) := by unfold Ord; infer_instance
theorem Ord_nil : Ord [] := trivial
theorem clk_reverse (l : List Ent) (p : Int) : clk l.reverse p = clk l p := by
 unfold clk
 rw [List.filter_reverse, List.length_reverse]
theorem Ord_snoc {l : List Ent} {e : Ent} : Ord (l ++ [e]) ↔ Ord l ∧ (∀ f ∈ l, f.1 ≤ e.1) ∧ e.2.1 = clk l e.1 + 1 := by
 unfold Ord
 rw [List.reverse_append]
 show (ordR l.reverse ∧ (∀ f ∈ l.reverse, f.1 ≤ e.1) ∧ e.2.1 = clk l.reverse e.1 + 1) ↔ _
 rw [clk_reverse]
 simp only [List.mem_reverse]
theorem ordR_behind : ∀ {a b : List Ent}, ordR (a ++ b) → ordR b
 | [], _, h => h
 | _ :: a, _, h => ordR_behind (a := a) h.1
theorem Ord_left {a b : List Ent} (h : Ord (a ++ b)) : Ord a := by
 unfold Ord at h ⊢
 rw [List.reverse_append] at h
 exact ordR_behind h
theorem Ord_take {es : List Ent} (h : Ord es) (k : Nat) : Ord (es.take k) := Ord_left (b := es.drop k) (by rwa [List.take_append_drop])
def val (es : List Ent) : Int := if 60 < es.length then 4 else if ¬ (∀ e ∈ es, okT e) then 1 else if ¬ Ord es then 1 else if ∃ e ∈ es, wrong es e then 11 else 0
structure Card (es : List Ent) : Prop where
 len : es.length ≤ 60
 txt : ∀ e ∈ es, okT e
 ord : Ord es
 saw : ∀ e ∈ es, ¬ wrong es e
theorem val_zero {es : List Ent} : val es = 0 ↔ Card es := by
 unfold val
 constructor
 ·intro h
  split at h
  ·exact absurd h (by decide)
  rename_i h1
  split at h
  ·exact absurd h (by decide)
  rename_i h2
  split at h
  ·exact absurd h (by decide)
  rename_i h3
  split at h
  ·exact absurd h (by decide)
  rename_i h4
  exact ⟨by omega, Classical.not_not.1 h2, Classical.not_not.1 h3, fun e he hw => h4 ⟨e, he, hw⟩⟩
 ·rintro ⟨h1, h2, h3, h4⟩
  rw [if_neg (by omega), if_neg (fun h => h h2), if_neg (fun h => h h3), if_neg (fun ⟨e, he, hw⟩ => h4 e he hw)]
theorem val_large {es : List Ent} (h : 60 < es.length) : val es = 4 := if_pos h
theorem val_txt {es : List Ent} (h : es.length ≤ 60) {e : Ent} (he : e ∈ es) (h2 : ¬ okT e) : val es = 1 := by
 unfold val
 rw [if_neg (by omega), if_pos (fun h => h2 (h e he))]
theorem val_ord {es : List Ent} (h : es.length ≤ 60) (h3 : ¬ Ord es) : val es = 1 := by
 unfold val
 rw [if_neg (by omega), if_pos h3]
 split <;> rfl
theorem val_saw {es : List Ent} (h : es.length ≤ 60) (h2 : ∀ e ∈ es, okT e) (h3 : Ord es) {e : Ent} (he : e ∈ es) (h4 : wrong es e) : val es = 11 := by
 unfold val
 rw [if_neg (by omega), if_neg (fun h => h h2), if_neg (fun h => h h3), if_pos ⟨e, he, h4⟩]
theorem Ord_seq {es : List Ent} (h : Ord es) : ∀ e ∈ es, 1 ≤ e.2.1 ∧ e.2.1 ≤ es.length := by
 have : ∀ l : List Ent, ordR l → ∀ e ∈ l, 1 ≤ e.2.1 ∧ e.2.1 ≤ l.length := by
  intro l
  induction l with
  | nil => intro _ e he; cases he
  | cons x l ih =>
   intro ⟨h1, _, h3⟩ e he
   rcases List.mem_cons.1 he with rfl | he
   ·have := clk_le l e.1
    simp only [List.length_cons]
    omega
   ·have := ih h1 e he
    simp only [List.length_cons]
    omega
 intro e he
 have := this es.reverse h e (by simpa using he)
 simpa using this
theorem clk_none {l : List Ent} {p : Int} (h : ∀ f ∈ l, f.1 < p) : clk l p = 0 := by
 unfold clk
 rw [List.length_eq_zero_iff, List.filter_eq_nil_iff]
 intro f hf
 have := h f hf
 simp; omega
end Go.Proofs.YtihhclhpjgeniaaGreatDoor
namespace Go.Proofs.YtihhclhpjgeniaaGreatDoor
open Go.RowKit Go.Sort
def keyLt (e f : Ent) : Prop := e.1 < f.1 ∨ (e.1 = f.1 ∧ e.2.1 < f.2.1)
instance (e f : Ent) : Decidable (keyLt e f) := by unfold keyLt; infer_instance
theorem keyLt_irrefl (e : Ent) : ¬ keyLt e e := by unfold keyLt; omega
theorem keyLt_trans {e f g : Ent} (h : keyLt e f) (k : keyLt f g) : keyLt e g := by unfold keyLt at *; omega
theorem keyLt_asymm {e f : Ent} (h : keyLt e f) : ¬ keyLt f e := by unfold keyLt at *; omega
theorem keyLt_total (e f : Ent) : keyLt e f ∨ (e.1 = f.1 ∧ e.2.1 = f.2.1) ∨ keyLt f e := by unfold keyLt; omega
theorem snoc_ind {α : Type} {P : List α → Prop} (h0 : P []) (h1 : ∀ l a, P l → P (l ++ [a])) (l : List α) : P l := by
 have : ∀ l : List α, P l.reverse := by
  intro l
  induction l with
  | nil => exact h0
  | cons a l ih => rw [List.reverse_cons]; exact h1 _ _ ih
 have h := this l.reverse
 rwa [List.reverse_reverse] at h
theorem Ord_num {l : List Ent} (h : Ord l) : ∀ e ∈ l, 1 ≤ e.2.1 ∧ e.2.1 ≤ clk l e.1 := by
 induction l using snoc_ind with
 | h0 => intro e he; cases he
 | h1 l a ih =>
  obtain ⟨h1, h2, h3⟩ := Ord_snoc.1 h
  intro e he
  rw [clk_snoc]
  rcases List.mem_append.1 he with he | he
  ·have := ih h1 e he
   omega
  ·rw [List.mem_singleton.1 he, if_pos rfl]
   omega
theorem Ord_all {l : List Ent} (h : Ord l) {s p : Int} (h1 : 1 ≤ s) (h2 : s ≤ clk l p) : ∃ f ∈ l, f.1 = p ∧ f.2.1 = s := by
 induction l using snoc_ind with
 | h0 => simp [clk] at h2; omega
 | h1 l a ih =>
  obtain ⟨k1, k2, k3⟩ := Ord_snoc.1 h
  rw [clk_snoc] at h2
  by_cases hle : s ≤ clk l p
  ·obtain ⟨f, hf, hq⟩ := ih k1 hle
   exact ⟨f, by simp [hf], hq⟩
  ·by_cases hp : a.1 = p
   ·rw [if_pos hp] at h2
    subst hp
    exact ⟨a, by simp, rfl, by omega⟩
   ·rw [if_neg hp] at h2
    omega
theorem Ord_sorted {l : List Ent} (h : Ord l) : l.Pairwise keyLt := by
 induction l using snoc_ind with
 | h0 => exact List.Pairwise.nil
 | h1 l a ih =>
  obtain ⟨k1, k2, k3⟩ := Ord_snoc.1 h
  rw [List.pairwise_append]
  refine ⟨ih k1, List.pairwise_singleton _ _, fun x hx y hy => ?_⟩
  rw [List.mem_singleton.1 hy]
  have := k2 x hx
  have h4 := (Ord_num k1 x hx).2
  unfold keyLt
  by_cases he : x.1 = a.1
  ·rw [he] at h4; omega
  ·omega
theorem Ord_of {l : List Ent} (hs : l.Pairwise keyLt) (h1 : ∀ e ∈ l, 1 ≤ e.2.1) (h2 : ∀ e ∈ l, 2 ≤ e.2.1 → ∃ f ∈ l, f.1 = e.1 ∧ f.2.1 = e.2.1 - 1) : Ord l := by
 induction l using snoc_ind with
 | h0 => exact Ord_nil
 | h1 l a ih =>
  obtain ⟨s1, s2, s3⟩ := List.pairwise_append.1 hs
  have s4 : ∀ x ∈ l, keyLt x a := fun x hx => s3 x hx a (by simp)
  have hl : Ord l := by
   refine ih s1 (fun e he => h1 e (by simp [he])) (fun e he h => ?_)
   obtain ⟨f, hf, f1, f2⟩ := h2 e (by simp [he]) h
   rcases List.mem_append.1 hf with hf | hf
   ·exact ⟨f, hf, f1, f2⟩
   ·rw [List.mem_singleton.1 hf] at f1 f2
    have := s4 e he
    unfold keyLt at this
    omega
  rw [Ord_snoc]
  refine ⟨hl, fun f hf => by have := s4 f hf; unfold keyLt at this; omega, ?_⟩
  have ha := h1 a (by simp)
  have up : (clk l a.1 : Int) < a.2.1 := by
   rcases Nat.eq_zero_or_pos (clk l a.1) with h0 | h0
   ·omega
   ·obtain ⟨f, hf, f1, f2⟩ := Ord_all hl (s := clk l a.1) (p := a.1) (by omega) (Int.le_refl _)
    have := s4 f hf
    unfold keyLt at this
    omega
  rcases (show a.2.1 = 1 ∨ 2 ≤ a.2.1 by omega) with h | h
  ·omega
  ·obtain ⟨f, hf, f1, f2⟩ := h2 a (by simp) h
   rcases List.mem_append.1 hf with hf | hf
   ·have := (Ord_num hl f hf).2
    rw [f1] at this
    omega
   ·rw [List.mem_singleton.1 hf] at f2
    omega
theorem sorted_nodup {l : List Ent} (h : l.Pairwise keyLt) : l.Nodup := by
 refine h.imp ?_
 intro a b h e
 subst e
 exact keyLt_irrefl a h
theorem sorted_inj {l : List Ent} (h : l.Pairwise keyLt) {e f : Ent} (he : e ∈ l) (hf : f ∈ l) (h1 : e.1 = f.1) (h2 : e.2.1 = f.2.1) : e = f := by
 induction l with
 | nil => cases he
 | cons a l ih =>
  obtain ⟨k1, k2⟩ := List.pairwise_cons.1 h
  rcases List.mem_cons.1 he with rfl | he' <;> rcases List.mem_cons.1 hf with rfl | hf'
  ·rfl
  ·have := k1 f hf'; unfold keyLt at this; omega
  ·have := k1 e he'; unfold keyLt at this; omega
  ·exact ih k2 he' hf'
theorem sorted_ext {a b : List Ent} (ha : a.Pairwise keyLt) (hb : b.Pairwise keyLt) (h : ∀ e, e ∈ a ↔ e ∈ b) : a = b := by
 have hp : a.Perm b := (List.perm_ext_iff_of_nodup (sorted_nodup ha) (sorted_nodup hb)).2 h
 refine List.Perm.eq_of_pairwise (fun x y _ _ h1 h2 => absurd h2 (keyLt_asymm h1)) ha hb hp
theorem sorted_of_sort {a b : List Ent} (hp : b.Perm a) (hs : b.Pairwise fun x y => ¬ keyLt y x) (hn : a.Nodup) (hi : ∀ e ∈ a, ∀ f ∈ a, e.1 = f.1 → e.2.1 = f.2.1 → e = f) : b.Pairwise keyLt := by
 have hb : b.Nodup := hp.nodup_iff.2 hn
 have := List.Pairwise.and hs hb
 refine this.imp_of_mem ?_
 intro x y hx hy ⟨h1, h2⟩
 rcases keyLt_total x y with h | ⟨h, h'⟩ | h
 ·exact h
 ·exact absurd (hi x (hp.mem_iff.1 hx) y (hp.mem_iff.1 hy) h h') h2
 ·exact absurd h h1
end Go.Proofs.YtihhclhpjgeniaaGreatDoor
namespace Go.Proofs.YtihhclhpjgeniaaGreatDoor
open Go.RowKit Go.Sort Go.Lib
def cmpI (a b : Int) : Int := if a < b then -1 else if b < a then 1 else 0
def or0 (l : List Int) : Int := (l.find? fun z => z != 0).getD 0
theorem isNaN_any (n : Int) (w : World) : Calls Tryz.prog 256 #[.int .i64 n] w fun e w' => e = .returned (.bool false) ∧ w = w' := by
 go_enter Tryz.func256, Tryz.ntmps256
 go_wp2
 go_ret
 exact ⟨by simp, rfl⟩
theorem cmpI_any (a b : Int) (w : World) : Calls Tryz.prog 202 #[.int .i64 a, .int .i64 b] w fun e w' => e = .returned (.int .i64 (cmpI a b)) ∧ w = w' := by
 go_enter Tryz.func202, Tryz.ntmps202
 go_wp2_with (go_at_call 256; refine (isNaN_any _ _).mono ?_; rintro e w' ⟨rfl, rfl⟩)
 all_goals go_ret
 all_goals exact ⟨ret_int (by unfold cmpI; split <;> (try split) <;> omega), rfl⟩
theorem or_any (A : Option Addr) (n c : Nat) (zs : List Int) (w : World) (hr : Reads w w.heap.size 1 A n (ints zs)) (hn : n ≤ 9223372036854775807) :
  Calls Tryz.prog 201 #[.slice A n c] w fun e w' => e = .returned (.int .i64 (or0 zs)) ∧ w = w' := by
 have hl := hr.1
 rw [ints_length] at hl
 have l1 : n ≤ zs.length := by omega
 have l2 : zs.length ≤ n := by omega
 clear hl
 go_enter Tryz.func201, Tryz.ntmps201
 go_wp2
 go_loop [8] (fun i => ∃ k : Nat, k ≤ n ∧ i = .int .i64 k ∧ or0 zs = or0 (zs.drop k)) (fun i => n - (intOf i).toNat)
 case atStart => exact ⟨0, by omega, rfl, rfl⟩
 case round =>
  obtain ⟨k, hk, rfl, hno0⟩ := hrel
  have hno := Lib.hid hno0
  clear hno0
  by_cases hlt : k < n
  ·obtain ⟨ad, z, e1, hbk, hx0, c0⟩ := dsat hr (k := k) (by omega)
   have hx := Lib.hid hx0
   clear hx0
   have hd : zs.drop k = z :: zs.drop (k + 1) := by
    have hlt' : k < zs.length := by omega
    rw [List.drop_eq_getElem_cons hlt']
    have := hx.out
    rw [List.getElem?_eq_getElem hlt'] at this
    rw [Option.some.inj this]
   have hD := Lib.hid hd
   clear hd
   by_cases hz : z = 0
   ·subst hz
    go_wp2
    go_round
    case rel => exact ⟨k + 1, by omega, by go_num, by rw [hno.out, hD.out]; simp [or0]⟩
    case measure => simp [intOf]; omega
   ·have hz1 : (z != 0) = true := by simpa using hz
    have hf := Lib.hid (show or0 zs = z by rw [hno.out, hD.out]; simp [or0, hz])
    go_wp2
    go_ret
    exact ⟨ret_int hf.out.symm, rfl⟩
  ·have hf := Lib.hid (show or0 zs = 0 by rw [hno.out, List.drop_eq_nil_of_le (by omega)]; rfl)
   go_wp2
   go_ret
   exact ⟨ret_int hf.out.symm, rfl⟩
def cmpK (a b : Ent) : Int := or0 [cmpI a.1 b.1, cmpI a.2.1 b.2.1]
theorem cmpK_neg (x y : Ent) : cmpK x y < 0 ↔ keyLt x y := by
 unfold cmpK keyLt or0 cmpI
 by_cases h1 : x.1 < y.1
 ·simp [h1]
 ·by_cases h2 : y.1 < x.1
  ·simp [h1, h2]; omega
  ·have h3 : x.1 = y.1 := by omega
   by_cases h4 : x.2.1 < y.2.1
   ·simp [h3, h4]
   ·by_cases h5 : y.2.1 < x.2.1
    ·simp [h3, h4, h5]
    ·simp [h3, h4, h5]
theorem cmpK_grow (a b : Ent) (w : World) :
  Calls Tryz.prog 275 #[eval_ a, eval_ b] w fun r w' => r = .returned (.int .i64 (cmpK a b)) ∧ ∃ q os', w' = grow (w.drewN q) os' := by
 go_enter Tryz.func275, Tryz.ntmps275
 dsimp only [eval_]
 go_wp2_with fail
 refine wp_gen (fun w1 => Box w1 w.heap.size #[.int .i64 a.1, .int .i64 a.2.1, .int .i64 a.2.2.1.1, .int .i64 a.2.2.1.2.1, .int .i64 a.2.2.1.2.2, .string a.2.2.2] ∧ Box w1 (w.heap.size + 1) #[.int .i64 b.1, .int .i64 b.2.1, .int .i64 b.2.2.1.1, .int .i64 b.2.2.1.2.1, .int .i64 b.2.2.1.2.2, .string b.2.2.2] ∧ Hid (∃ os, w1 = grow w os)) ⟨(Box.new _ _ _).alloc _, Box.new2 _ _ _ _ _, Lib.hid ⟨_, by rw [alloc_eq_grow, alloc_eq_grow, grow_grow]⟩⟩ ?_
 rintro w1 ⟨b0, b1, hg⟩
 have c0 := b0.at
 have c1 := b1.at
 go_region_held3 (fun w' => (∀ i, w'.cell? ⟨w.heap.size, i, none⟩ = (#[.int .i64 a.1, .int .i64 a.2.1, .int .i64 a.2.2.1.1, .int .i64 a.2.2.1.2.1, .int .i64 a.2.2.1.2.2, .string a.2.2.2] : Array Value)[i]?) ∧ (∀ i, w'.cell? ⟨w.heap.size + 1, i, none⟩ = (#[.int .i64 b.1, .int .i64 b.2.1, .int .i64 b.2.2.1.1, .int .i64 b.2.2.1.2.1, .int .i64 b.2.2.1.2.2, .string b.2.2.2] : Array Value)[i]?)) (first | exact ⟨c0, c1⟩ | exact ⟨(b0.alloc _).at, (b1.alloc _).at⟩)
  (first | (go_at_call 202; refine (cmpI_any _ _ _).mono ?_; rintro e w' ⟨rfl, rfl⟩) | (go_at_call 201; refine (or_any _ 2 2 [cmpI a.1 b.1, cmpI a.2.1 b.2.1] _ ((reads_new w1 (ints [cmpI a.1 b.1, cmpI a.2.1 b.2.1]) 3 1 2 rfl).drew) (by omega)).mono ?_; rintro e w' ⟨rfl, rfl⟩))
 go_wp2
 go_ret
 refine ⟨rfl, 1, ?_⟩
 obtain ⟨os, rfl⟩ := hg.out
 exact ⟨_, by rw [alloc_eq_grow, grow_grow, drew_grow]; rfl⟩
theorem below_drewGrow (w : World) (q : Nat) (os : Array Obj) : Below w.heap.size w (grow (w.drewN q) os) :=
 ⟨rfl, rfl, rfl, by first | (simp [grow]; done) | (simp [grow]; omega), fun i hi => by
  show ((w.drewN q).heap ++ os)[i]? = _
  rw [Array.getElem?_append_left (by show i < w.heap.size; omega)]
  rfl⟩
theorem ltOf_cmpK (x y : Ent) : ltOf cmpK x y = decide (keyLt x y) := by
 unfold ltOf
 rw [decide_eq_decide]
 exact cmpK_neg x y
theorem swoK : SWO (ltOf cmpK) where
 irrefl x := by rw [ltOf_cmpK]; simp [keyLt_irrefl]
 trans x y z h1 h2 := by rw [ltOf_cmpK] at *; simp at *; exact keyLt_trans h1 h2
 ntrans x y z h1 h2 := by
  rw [ltOf_cmpK] at *
  simp only [decide_eq_false_iff_not] at *
  unfold keyLt at *
  omega
theorem isAgg53 : ∀ w, (isAgg 47).run Tryz.prog w = .ok true w := fun _ => by kernel_rfl
theorem sizeOf53 : ∀ w, (Go.sizeOf 47).run Tryz.prog w = .ok 6 w := fun _ => by kernel_rfl
theorem info53b : (Tryz.prog.info? 47).map (fun i => (i.zero, i.size, i.bytes)) = some (some (.agg #[.int .i64 0, .int .i64 0, .int .i64 0, .int .i64 0, .int .i64 0, .string ⟨#[]⟩]), 6, 56) := by kernel_rfl
set_option maxRecDepth 4000 in
theorem clone_any (A : Option Addr) (n c : Nat) (es : List Ent) (w : World) (hl : Reads w w.heap.size 6 A n (ents es)) (hn : n ≤ 1000000) :
  Calls Tryz.prog 70 #[.slice A n c] w (RetRow 47 6 n (ents es) w) := by
 have HL := Lib.hid hl
 cases A with
 | none =>
  have h0 : n = 0 := by
   rcases Nat.eq_zero_or_pos n with h | h
   ·exact h
   ·obtain ⟨p, hp, _⟩ := hl.look h; cases hp
  subst h0
  clear hl
  have N0 := fun w => Lib.run_eql_slice_nil (P := Tryz.prog) w 44 47 none 0 c 0 0 Tryz.underlying44
  go_enter Tryz.func70, Tryz.ntmps70
  go_wp2_with fail
  go_ret
  have : ents es = [] := List.eq_nil_of_length_eq_zero (by have := HL.out.len; simpa using this)
  exact ⟨none, 0, rfl, by rw [this]; exact World.ownsRow_nil _ _ _ _, Below.refl _ _⟩
 | some ad =>
  clear hl
  have hlen : n ≤ 1000000000 := by omega
  have N0 := fun w => Lib.run_eql_slice_nil (P := Tryz.prog) w 44 47 (some ad) n c 0 0 Tryz.underlying44
  go_enter Tryz.func70, Tryz.ntmps70
  go_wp2_with (at_builtin; refine wpList_copyR rfl _ _ 44 47 rfl Tryz.underlying44 info53b rfl (by omega) (by omega) w rfl rfl HL.out (ents_one _) hlen ?_; intro B d w1 hr1 hb1; have HR1 := Lib.hid hr1; have HB1 := Lib.hid hb1; clear hr1 hb1)
  go_ret
  exact ⟨B, d, rfl, HR1.out, HB1.out⟩
theorem sort_none (A : Option Addr) (c : Nat) (w : World) :
  Calls Tryz.prog 274 #[.slice A 0 c, .func (.func 275) #[] #[]] w fun r w' => r = .returned (.tuple #[]) ∧ w' = w :=
 AnyF.slices_SortFunc_none sortLay A c _ w
theorem sort_any {bl : Nat} (A : Option Addr) (n c : Nat) (es : List Ent) (w : World) (h : w.ownsRow bl 47 6 (.slice A n c) n (ents es)) (hn : n ≤ 1000000) :
  Calls Tryz.prog 274 #[.slice A n c, .func (.func 275) #[] #[]] w fun r w' => r = .returned (.tuple #[]) ∧ ∃ es' : List Ent, es'.Perm es ∧ (es'.Pairwise fun x y => ¬ keyLt y x) ∧ w'.ownsRow bl 47 6 (.slice A n c) n (ents es') ∧ w.grownBy w' (Value.slice A n c).ownBlock := by
 have hl := h.1
 rw [ents_length] at hl
 have hle : es.length = n := by omega
 rcases h.2 with ⟨hv, h0⟩ | ⟨g, cap, cur, hv, hb, hh, hnc, hcm, hcs, hct⟩
 ·injection hv with e1 e2 e3
  subst e1 h0 e3
  obtain rfl : es = [] := List.eq_nil_of_length_eq_zero hle
  exact (sort_none none 0 w).mono fun r w' ⟨h1, h2⟩ => ⟨h1, [], List.Perm.refl _, List.Pairwise.nil, by rw [h2]; exact h, by rw [h2]; exact ⟨rfl, rfl, rfl, Nat.le_refl _, fun _ _ _ => rfl⟩⟩
 ·injection hv with e1 e2 e3
  subst e1 e3
  have hH : HoldsK ecells 6 w g 0 es.toArray := holdsK_of_row (enc := ecells) (k := 6) (fun _ => rfl) hh (by rw [hle]; exact hct)
  have hg : g < w.heap.size := (Array.getElem?_eq_some_iff.1 hh).1
  have hs := AnyQ.slices_SortFunc sortLay 6 isAgg53 sizeOf53 ecells (fun _ => rfl) (fun x v hv => by simp [ecells] at hv; rcases hv with rfl | rfl | rfl | rfl | rfl | rfl <;> rfl) cmpK swoK 275 #[] g 0 c es.toArray w
   (enters_of Tryz.func275 (by kernel_rfl) rfl) (fun _ _ _ _ x y => cmpK_grow x y _) hH hg (by simp; omega)
  have hsz : es.toArray.size = n := by simp [hle]
  rw [hsz] at hs
  refine hs.mono fun r w' ⟨h1, d', m, os, hp, hso, hw⟩ => ⟨h1, d'.toList, ?_, ?_, ?_, ?_⟩
  ·obtain ⟨p1, _, p3⟩ := hp
   rw [show d'.extract 0 n = d' by rw [← hsz, ← p1]; simp, show es.toArray.extract 0 n = es.toArray by rw [← hsz]; simp] at p3
   simpa using p3
  ·have q1 : d'.size = n := by rw [hp.1, hsz]
   rw [List.pairwise_iff_getElem]
   intro i j hi hj hij
   have := hso i j (Nat.zero_le _) hij (by simpa [q1] using hj)
   rw [ltOf_cmpK, decide_eq_false_iff_not] at this
   simp only [Array.length_toList] at hi hj
   simpa [getElem!_pos, hi, hj] using this
  ·rw [hw]
   have := ownsRow_sortedK (enc := ecells) (k := 6) (fun _ => rfl) (w := w) (base := bl) (g := g) (cap := c) (m := m) (e := 47) (os := os) (l := es) (t := d'.toList) (by rw [Array.length_toList, hp.1]; simp) hb hh (by omega) hcm hcs
   rw [hle] at this
   exact this
  ·rw [hw]; exact grownBy_sortedK _
end Go.Proofs.YtihhclhpjgeniaaGreatDoor
