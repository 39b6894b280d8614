/- Plain: the text of a field, and the field of a text. -/
import Derived.Test.YtfaleddacmbidaaDoorPl
import Derived.Lib.AtoiAll
import Derived.Lib.ItoaNum
namespace Go.Proofs.YtfaleddacmbidaaDoor

/-! Numbers, written. -/
/-- A number of one or two digits, written. -/
def decL (n : Nat) : List UInt8 := if n < 10 then [UInt8.ofNat (48 + n)] else [UInt8.ofNat (48 + n / 10), UInt8.ofNat (48 + n % 10)]
theorem atoi_dec : ∀ n, n < 100 → Lib.atoiAll (decL n) = .ok (n : Int) := by decide +kernel
theorem decDigits_dec : ∀ n, n < 100 → Lib.decDigits n = decL n := by
  intro n hn
  unfold Lib.decDigits decL
  split
  · rfl
  · unfold Lib.decDigits
    rw [dif_pos (by omega)]
    rfl
theorem decDigits_mem : ∀ (u : Nat) (b : UInt8), b ∈ Lib.decDigits u → 48 ≤ b.toNat ∧ b.toNat ≤ 57 := by
  intro u
  induction u using Nat.strongRecOn with
  | ind u ih =>
    intro b hb
    unfold Lib.decDigits at hb
    split at hb
    · rename_i h
      rw [List.mem_singleton.1 hb]
      have : (UInt8.ofNat (48 + u)).toNat = 48 + u := by rw [UInt8.toNat_ofNat']; omega
      omega
    · rename_i h
      rcases List.mem_append.1 hb with hb | hb
      · exact ih (u / 10) (by omega) b hb
      · rw [List.mem_singleton.1 hb]
        have : (UInt8.ofNat (48 + u % 10)).toNat = 48 + u % 10 := by rw [UInt8.toNat_ofNat']; omega
        omega
theorem itoa_mem {n : Int} {b : UInt8} (h : b ∈ Lib.itoa n) : b.toNat = 45 ∨ (48 ≤ b.toNat ∧ b.toNat ≤ 57) := by
  unfold Lib.itoa at h
  split at h
  · rcases List.mem_cons.1 h with rfl | h
    · exact .inl rfl
    · exact .inr (decDigits_mem _ _ h)
  · exact .inr (decDigits_mem _ _ h)
theorem itoa_blank (n : Int) : (32 : UInt8) ∉ Lib.itoa n := fun h => by have := itoa_mem h; revert this; decide
theorem itoa_comma (n : Int) : (44 : UInt8) ∉ Lib.itoa n := fun h => by have := itoa_mem h; revert this; decide
theorem itoa_small {n : Int} (h0 : 0 ≤ n) (h1 : n ≤ 99) : Lib.itoa n = decL n.toNat := by
  unfold Lib.itoa
  rw [if_neg (by omega), decDigits_dec _ (by omega)]
theorem atoi_itoa {n : Int} (h0 : 0 ≤ n) (h1 : n ≤ 99) : Lib.atoiAll (Lib.itoa n) = .ok n := by
  rw [itoa_small h0 h1, atoi_dec _ (by omega)]
  congr 1
  omega
theorem decL_len (n : Nat) : (decL n).length ≤ 2 := by unfold decL; split <;> simp
theorem itoa_len2 {n : Int} (h0 : 0 ≤ n) (h1 : n ≤ 99) : (Lib.itoa n).length ≤ 2 := by rw [itoa_small h0 h1]; exact decL_len _
/-! Pieces between a byte. -/
/-- Two texts that are parted by the same byte, which the first parts lack. -/
theorem part_eq {b : UInt8} {u v x y : List UInt8} (hu : b ∉ u) (hv : b ∉ v) (h : u ++ b :: x = v ++ b :: y) : u = v ∧ x = y := by
  induction u generalizing v with
  | nil =>
    cases v with
    | nil => simp at h; exact ⟨rfl, h⟩
    | cons c v => simp at h; exact absurd (by rw [← h.1]; exact List.mem_cons_self) hv
  | cons a u ih =>
    cases v with
    | nil => simp at h; exact absurd (by rw [h.1]; exact List.mem_cons_self) hu
    | cons c v =>
      simp at h
      obtain ⟨e1, e2⟩ := ih (v := v) (fun hm => hu (List.mem_cons_of_mem _ hm)) (fun hm => hv (List.mem_cons_of_mem _ hm)) h.2
      exact ⟨by rw [h.1, e1], e2⟩
def join (b : UInt8) : List (List UInt8) → List UInt8
  | [] => []
  | [w] => w
  | w :: x :: l => w ++ b :: join b (x :: l)
theorem join_cons (b : UInt8) (w : List UInt8) {l : List (List UInt8)} (h : l ≠ []) : join b (w :: l) = w ++ b :: join b l := by
  cases l with
  | nil => exact absurd rfl h
  | cons x l => rfl
theorem join_snoc (b : UInt8) {l : List (List UInt8)} (h : l ≠ []) (w : List UInt8) : join b (l ++ [w]) = join b l ++ b :: w := by
  induction l with
  | nil => exact absurd rfl h
  | cons x l ih =>
    cases l with
    | nil => rfl
    | cons y l =>
      rw [List.cons_append, join_cons b x (by simp), ih (by simp), join_cons b x (by simp)]
      simp
/-- The pieces of a text between a byte. -/
structure Pcs (b : UInt8) (l : List (List UInt8)) (s : List UInt8) : Prop where
  ne : l ≠ []
  no : ∀ w ∈ l, b ∉ w
  eq : join b l = s
theorem join_inj {b : UInt8} : ∀ (l m : List (List UInt8)), l ≠ [] → m ≠ [] → (∀ w ∈ l, b ∉ w) → (∀ w ∈ m, b ∉ w) → join b l = join b m → l = m
  | [], _, h, _, _, _, _ => absurd rfl h
  | _ :: _, [], _, h, _, _, _ => absurd rfl h
  | [x], [y], _, _, _, _, h => congrArg (fun z => [z]) h
  | [x], y :: z :: m, _, _, h2, _, h => by
    rw [join_cons b y (by simp)] at h
    have : x = y ++ b :: join b (z :: m) := h
    exact absurd (show b ∈ x by rw [this]; simp) (h2 x (by simp))
  | x :: z :: l, [y], _, _, _, k2, h => by
    rw [join_cons b x (by simp)] at h
    have : x ++ b :: join b (z :: l) = y := h
    exact absurd (show b ∈ y by rw [← this]; simp) (k2 y (by simp))
  | x :: z :: l, y :: u :: m, _, _, h2, k2, h => by
    rw [join_cons b x (by simp), join_cons b y (by simp)] at h
    obtain ⟨e1, e2⟩ := part_eq (h2 x (by simp)) (k2 y (by simp)) h
    rw [e1, join_inj (z :: l) (u :: m) (by simp) (by simp) (fun w hw => h2 w (List.mem_cons_of_mem _ hw)) (fun w hw => k2 w (List.mem_cons_of_mem _ hw)) e2]
theorem Pcs.unique {b : UInt8} {s : List UInt8} {l m : List (List UInt8)} (h : Pcs b l s) (k : Pcs b m s) : l = m :=
  join_inj l m h.ne k.ne h.no k.no (h.eq.trans k.eq.symm)
/-! The text of a field. -/
def dgt (d : Int) : UInt8 := UInt8.ofNat (48 + d.toNat)
def dirsF (W : Int) : Nat → List Int → List UInt8
  | _, [] => []
  | i, d :: l => (if 0 < i ∧ (i : Int) % W = 0 then [47] else []) ++ dgt d :: dirsF W (i + 1) l
theorem dirsF_append (W : Int) (i : Nat) (a : List Int) (d : Int) : dirsF W i (a ++ [d]) = dirsF W i a ++ ((if 0 < i + a.length ∧ ((i + a.length : Nat) : Int) % W = 0 then [47] else []) ++ [dgt d]) := by
  induction a generalizing i with
  | nil => simp [dirsF]
  | cons x a ih =>
    simp only [List.cons_append, dirsF, ih, List.length_cons]
    rw [show i + 1 + a.length = i + (a.length + 1) by omega]
    simp
def bodyE (e : Edg) : List UInt8 := join 44 [Lib.itoa e.1, Lib.itoa e.2.1, Lib.itoa e.2.2]
def headF : List UInt8 := [102, 108, 111, 119]
def pieces (f : Fld) : List (List UInt8) := [headF, Lib.itoa f.W, Lib.itoa f.H, dirsF f.W 0 f.ds] ++ f.ps.map bodyE
def fmtL (f : Fld) : List UInt8 := join 32 (pieces f)
theorem dgt_nat {d : Int} (h0 : 0 ≤ d) (h7 : d ≤ 7) : (dgt d).toNat = 48 + d.toNat := by
  unfold dgt
  rw [UInt8.toNat_ofNat']
  omega
theorem dirs_mem {W : Int} {l : List Int} (h : ∀ d ∈ l, 0 ≤ d ∧ d ≤ 7) : ∀ (i : Nat) (c : UInt8), c ∈ dirsF W i l → 47 ≤ c.toNat ∧ c.toNat ≤ 55 := by
  induction l with
  | nil => intro i c hc; cases hc
  | cons d l ih =>
    intro i c hc
    simp only [dirsF, List.mem_append, List.mem_cons] at hc
    rcases hc with hc | rfl | hc
    · split at hc
      · rw [List.mem_singleton.1 hc]; decide
      · cases hc
    · obtain ⟨h0, h7⟩ := h d (by simp)
      rw [dgt_nat h0 h7]
      omega
    · exact ih (fun d hd => h d (List.mem_cons_of_mem _ hd)) _ c hc
/-- The directions that a word tells. -/
def readDs (l : List UInt8) : List Int := (l.filter fun c => c != 47).map fun c => (c.toNat : Int) - 48
theorem readDs_snoc (l : List UInt8) (c : UInt8) : readDs (l ++ [c]) = readDs l ++ if c != 47 then [(c.toNat : Int) - 48] else [] := by
  unfold readDs
  rw [List.filter_append, List.map_append]
  congr 1
  by_cases h : c = 47 <;> simp [h]
theorem readDs_dirs {W : Int} {l : List Int} (h : ∀ d ∈ l, 0 ≤ d ∧ d ≤ 7) : ∀ i, readDs (dirsF W i l) = l := by
  induction l with
  | nil => intro i; rfl
  | cons d l ih =>
    intro i
    obtain ⟨h0, h7⟩ := h d (by simp)
    have hd := dgt_nat h0 h7
    have hne : (dgt d != 47) = true := by
      rw [bne_iff_ne]
      intro e
      rw [e] at hd
      have : (47 : UInt8).toNat = 47 := rfl
      omega
    have ih' := ih (fun d hd => h d (List.mem_cons_of_mem _ hd)) (i + 1)
    unfold readDs at ih' ⊢
    simp only [dirsF]
    rw [List.filter_append, List.filter_cons, if_pos hne]
    have e0 : List.filter (fun c => c != 47) (if 0 < i ∧ (i : Int) % W = 0 then [(47 : UInt8)] else []) = [] := by split <;> rfl
    rw [e0, List.nil_append, List.map_cons, ih', hd]
    congr 1
    omega
theorem isE_bd {W H : Int} {e : Edg} (hW : W ≤ 12) (hH : H ≤ 12) (h : isE W H e = true) : (0 ≤ e.1 ∧ e.1 ≤ 99) ∧ (0 ≤ e.2.1 ∧ e.2.1 ≤ 99) ∧ 0 ≤ e.2.2 ∧ e.2.2 ≤ 99 := by
  unfold isE at h
  rw [decide_eq_true_eq] at h
  omega
theorem body_pcs (e : Edg) : Pcs 44 [Lib.itoa e.1, Lib.itoa e.2.1, Lib.itoa e.2.2] (bodyE e) :=
  ⟨by simp, fun w hw => by simp only [List.mem_cons, List.not_mem_nil, or_false] at hw; rcases hw with rfl | rfl | rfl <;> exact itoa_comma _, rfl⟩
theorem body_blank (e : Edg) : (32 : UInt8) ∉ bodyE e := by
  show (32 : UInt8) ∉ Lib.itoa e.1 ++ 44 :: (Lib.itoa e.2.1 ++ 44 :: Lib.itoa e.2.2)
  have d : (32 : UInt8) ≠ 44 := by decide
  simp [itoa_blank, d]
theorem fmt_pcs {f : Fld} (h : ∀ d ∈ f.ds, 0 ≤ d ∧ d ≤ 7) : Pcs 32 (pieces f) (fmtL f) := by
  refine ⟨by simp [pieces], fun w hw => ?_, rfl⟩
  simp only [pieces, List.cons_append, List.nil_append, List.mem_cons, List.mem_map] at hw
  rcases hw with rfl | rfl | rfl | rfl | ⟨e, _, rfl⟩
  · decide
  · exact itoa_blank _
  · exact itoa_blank _
  · intro hm; have := dirs_mem h _ _ hm; revert this; decide
  · exact body_blank e
theorem itoa_inj99 {n m : Int} (h0 : 0 ≤ n) (h1 : n ≤ 99) (k0 : 0 ≤ m) (k1 : m ≤ 99) (h : Lib.itoa n = Lib.itoa m) : n = m := by
  have h2 := atoi_itoa h0 h1
  rw [h, atoi_itoa k0 k1] at h2
  injection h2 with h3
  exact h3.symm
theorem okf_bd {f : Fld} (h : Okf f) {e : Edg} (he : e ∈ f.ps) : (0 ≤ e.1 ∧ e.1 ≤ 99) ∧ (0 ≤ e.2.1 ∧ e.2.1 ≤ 99) ∧ 0 ≤ e.2.2 ∧ e.2.2 ≤ 99 := isE_bd h.w2 h.h2 (h.edge e he)
theorem body_inj {e g : Edg} (he : (0 ≤ e.1 ∧ e.1 ≤ 99) ∧ (0 ≤ e.2.1 ∧ e.2.1 ≤ 99) ∧ 0 ≤ e.2.2 ∧ e.2.2 ≤ 99) (hg : (0 ≤ g.1 ∧ g.1 ≤ 99) ∧ (0 ≤ g.2.1 ∧ g.2.1 ≤ 99) ∧ 0 ≤ g.2.2 ∧ g.2.2 ≤ 99) (h : bodyE e = bodyE g) : e = g := by
  have h1 := (body_pcs e).unique (h ▸ body_pcs g)
  simp only [List.cons.injEq, and_true] at h1
  obtain ⟨a, b, c⟩ := h1
  obtain ⟨e1, e2, e3⟩ := e
  obtain ⟨g1, g2, g3⟩ := g
  dsimp only at *
  rw [itoa_inj99 he.1.1 he.1.2 hg.1.1 hg.1.2 a, itoa_inj99 he.2.1.1 he.2.1.2 hg.2.1.1 hg.2.1.2 b, itoa_inj99 he.2.2.1 he.2.2.2 hg.2.2.1 hg.2.2.2 c]
theorem map_inj {l m : List Edg} (hl : ∀ e ∈ l, (0 ≤ e.1 ∧ e.1 ≤ 99) ∧ (0 ≤ e.2.1 ∧ e.2.1 ≤ 99) ∧ 0 ≤ e.2.2 ∧ e.2.2 ≤ 99) (hm : ∀ e ∈ m, (0 ≤ e.1 ∧ e.1 ≤ 99) ∧ (0 ≤ e.2.1 ∧ e.2.1 ≤ 99) ∧ 0 ≤ e.2.2 ∧ e.2.2 ≤ 99) (h : l.map bodyE = m.map bodyE) : l = m := by
  induction l generalizing m with
  | nil =>
    cases m with
    | nil => rfl
    | cons g m => simp at h
  | cons e l ih =>
    cases m with
    | nil => simp at h
    | cons g m =>
      simp only [List.map_cons, List.cons.injEq] at h
      rw [body_inj (hl e (by simp)) (hm g (by simp)) h.1, ih (fun x hx => hl x (by simp [hx])) (fun x hx => hm x (by simp [hx])) h.2]
/-- A text is that of one field at most. -/
theorem fmt_inj {f g : Fld} (h : Okf f) (k : Okf g) (he : fmtL f = fmtL g) : f = g := by
  have h1 := (fmt_pcs h.dir).unique (he ▸ fmt_pcs k.dir)
  simp only [pieces, List.cons_append, List.nil_append, List.cons.injEq, true_and] at h1
  obtain ⟨a, b, c, d⟩ := h1
  have hW := itoa_inj99 (by have := h.w1; omega) (by have := h.w2; omega) (by have := k.w1; omega) (by have := k.w2; omega) a
  have hH := itoa_inj99 (by have := h.h1; omega) (by have := h.h2; omega) (by have := k.h1; omega) (by have := k.h2; omega) b
  have hd : f.ds = g.ds := by
    have := congrArg readDs c
    rwa [readDs_dirs h.dir, readDs_dirs k.dir] at this
  have hp := map_inj (fun e he => okf_bd h he) (fun e he => okf_bd k he) d
  obtain ⟨_, _, _, _⟩ := f
  obtain ⟨_, _, _, _⟩ := g
  dsimp only at hW hH hd hp
  rw [hW, hH, hd, hp]
/-- What a text gives. -/
def IsFld (t : List UInt8) (f : Fld) : Prop := valid f = 0 ∧ fmtL f = t
def noF : Fld := ⟨0, 0, [], []⟩
def ParseR (t : List UInt8) (f : Fld) (e : Int) : Prop :=
  (4000 < t.length ∧ f = noF ∧ e = 4) ∨ (t.length ≤ 4000 ∧ IsFld t f ∧ e = 0) ∨ (t.length ≤ 4000 ∧ (∀ g, ¬ IsFld t g) ∧ f = noF ∧ e = 3)
theorem ParseR.unique {t : List UInt8} {f g : Fld} {e d : Int} (h : ParseR t f e) (k : ParseR t g d) : f = g ∧ e = d := by
  rcases h with ⟨h1, rfl, rfl⟩ | ⟨h1, h2, rfl⟩ | ⟨h1, h2, rfl, rfl⟩ <;> rcases k with ⟨k1, rfl, rfl⟩ | ⟨k1, k2, rfl⟩ | ⟨k1, k2, rfl, rfl⟩
  · exact ⟨rfl, rfl⟩
  · omega
  · omega
  · omega
  · exact ⟨fmt_inj (okf_of_valid h2.1) (okf_of_valid k2.1) (h2.2.trans k2.2.symm), rfl⟩
  · exact absurd h2 (k2 _)
  · omega
  · exact absurd k2 (h2 _)
  · exact ⟨rfl, rfl⟩
/-- The words of a field's text. -/
theorem fld_words {t : List UInt8} {f : Fld} {l : List (List UInt8)} (h : IsFld t f) (hl : Pcs 32 l t) : l = pieces f :=
  hl.unique (h.2 ▸ fmt_pcs (okf_of_valid h.1).dir)
/-- A word tells a number, if it is one. -/
def Tells (s : List UInt8) (z : Int) : Prop := ∀ n : Int, 0 ≤ n → n ≤ 99 → s = Lib.itoa n → z = n
end Go.Proofs.YtfaleddacmbidaaDoor
