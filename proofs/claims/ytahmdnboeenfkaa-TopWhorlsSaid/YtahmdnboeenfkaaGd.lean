/- Quarter turns, partings, plain laws of fields that are being made. -/
import Derived.Test.YtahmdnboeenfkaaGa
import Derived.Laws.OwnMore
import Derived.Lib.SliceRun
import Derived.OwnWalk
import Derived.ArgAppend
namespace Go.Proofs.Ytahmdnboeenfkaa

theorem sorted_map {ps : List Edg} {φ ψ : Edg → Edg} (hs : ps.Pairwise ltE) (hψ : ∀ e, ψ (φ e) = e) : (sortE (ps.map φ)).Pairwise ltE := by
  have h1 := sortE_le (ps.map φ)
  have h2 : (ps.map φ).Nodup := by
    unfold List.Nodup
    rw [List.pairwise_map]
    refine hs.imp ?_
    intro a b hab e
    have : a = b := by rw [← hψ a, e, hψ b]
    subst this
    exact ltE_irrefl a hab
  have h3 : (sortE (ps.map φ)).Nodup := (sortE_perm _).nodup_iff.2 h2
  refine (h1.and h3).imp ?_
  intro a b ⟨h4, h5⟩
  rcases ltE_total a b with h | h | h
  · exact h
  · exact absurd h h5
  · exact absurd h h4
theorem mem_sortE {ps : List Edg} {e : Edg} : e ∈ sortE ps ↔ e ∈ ps := (sortE_perm ps).mem_iff
theorem mem_map_inv {ps : List Edg} {φ ψ : Edg → Edg} (hψ : ∀ e, ψ (φ e) = e) (e : Edg) : φ e ∈ sortE (ps.map φ) ↔ e ∈ ps := by
  rw [mem_sortE, List.mem_map]
  constructor
  · rintro ⟨a, ha, he⟩
    have : a = e := by rw [← hψ a, he, hψ e]
    rw [← this]; exact ha
  · intro h; exact ⟨e, h, rfl⟩
theorem sortE_map_sortE (φ : Edg → Edg) (l : List Edg) : sortE ((sortE l).map φ) = sortE (l.map φ) := by
  refine sortE_unique ?_ (sortE_le _)
  exact (sortE_perm _).trans ((sortE_perm l).map φ)
theorem trn_map {f g : Fld} {e e' : Edg} (s : Int) (hs : s = 1 ∨ s = -1) (hb : ∃ q, g.bend e' = s * f.bend e + 8 * q) (hm : e' ∈ g.ps ↔ e ∈ f.ps) (h4 : f.trn e ≠ 4) : g.trn e' = s * f.trn e := by
  obtain ⟨q, hq⟩ := hb
  unfold Fld.trn at *
  rw [hq]
  have hp : (if e' ∈ g.ps then (4 : Int) else 0) = if e ∈ f.ps then 4 else 0 := by by_cases h : e ∈ f.ps <;> simp [hm, h]
  rw [hp]
  have hp2 : (if e ∈ f.ps then (4 : Int) else 0) = 0 ∨ (if e ∈ f.ps then (4 : Int) else 0) = 4 := by split <;> simp
  generalize (if e ∈ f.ps then (4 : Int) else 0) = p at *
  generalize f.bend e = b at *
  unfold turnN at *
  rcases hs with rfl | rfl <;> rcases hp2 with rfl | rfl <;> omega
theorem trn_ne {f : Fld} (h : valid f = 0) {e : Edg} (he : isE f.W f.H e = true) : f.trn e ≠ 4 := fun h4 => notsharp_of_valid h ⟨e, mem_edgesP.2 he, h4⟩

/-- Directions told by their number. -/
theorem dir_range {W H N : Int} {G : Nat → Int} {ps : List Edg} {x y : Nat} (h : ((y : Int) * W + (x : Int)) < N) (h0 : 0 ≤ (y : Int) * W) : (⟨W, H, (List.range N.toNat).map G, ps⟩ : Fld).dir x y = G ((y : Int) * W + (x : Int)).toNat := by
  unfold Fld.dir
  simp only [List.getD_eq_getElem?_getD, List.getElem?_map]
  rw [List.getElem?_range (by omega)]
  rfl
theorem fld_ext {f g : Fld} (hf : Okf f) (hg : Okf g) (h1 : f.W = g.W) (h2 : f.H = g.H) (h3 : ∀ x y : Int, 0 ≤ x → x < f.W → 0 ≤ y → y < f.H → f.dir x y = g.dir x y) (h4 : f.ps = g.ps) : f = g := by
  have hd : f.ds = g.ds := by
    have l1 := hf.len
    have l2 := hg.len
    rw [← h1, ← h2] at l2
    apply List.ext_getElem (by omega)
    intro i i1 i2
    have hW := hf.w1
    have hH := hf.h1
    have e1 := Int.mul_ediv_add_emod (i : Int) f.W
    have e2 := Int.emod_nonneg (i : Int) (show f.W ≠ 0 by omega)
    have e3 := Int.emod_lt_of_pos (i : Int) (show 0 < f.W by omega)
    have e4 : 0 ≤ (i : Int) / f.W := Int.ediv_nonneg (by omega) (by omega)
    have e5 : (i : Int) / f.W < f.H := by
      apply Int.ediv_lt_of_lt_mul (by omega)
      rw [Int.mul_comm, ← l1]; omega
    have := h3 _ _ e2 e3 e4 e5
    unfold Fld.dir at this
    rw [← h1, Int.mul_comm, e1] at this
    simp only [Int.toNat_natCast, List.getD_eq_getElem?_getD, List.getElem?_eq_getElem i1, List.getElem?_eq_getElem i2, Option.getD_some] at this
    exact this
  obtain ⟨a, b, c, d⟩ := f
  obtain ⟨a', b', c', d'⟩ := g
  simp only at h1 h2 hd h4
  subst h1 h2 hd h4
  rfl

/-- A sum over the first numbers. -/
def S : Nat → (Nat → Int) → Int
  | 0, _ => 0
  | n + 1, g => S n g + g n
theorem S_congr {n : Nat} {g h : Nat → Int} (e : ∀ i, i < n → g i = h i) : S n g = S n h := by
  induction n with
  | zero => rfl
  | succ n ih => simp only [S]; rw [ih fun i hi => e i (by omega), e n (by omega)]
theorem S_zero (n : Nat) : (S n fun _ => 0) = 0 := by
  induction n with
  | zero => rfl
  | succ n ih => simp only [S]; rw [ih]; rfl
theorem S_add (n : Nat) (g h : Nat → Int) : S n g + S n h = S n fun i => g i + h i := by
  induction n with
  | zero => rfl
  | succ n ih => simp only [S]; rw [← ih]; omega
theorem S_front (n : Nat) (g : Nat → Int) : S (n + 1) g = g 0 + S n fun i => g (i + 1) := by
  induction n with
  | zero => simp [S]
  | succ n ih =>
    show S (n + 1) g + g (n + 1) = g 0 + ((S n fun i => g (i + 1)) + g (n + 1))
    rw [ih]; omega
theorem S_rev (n : Nat) (g : Nat → Int) : S n g = S n fun i => g (n - 1 - i) := by
  induction n generalizing g with
  | zero => rfl
  | succ n ih =>
    rw [S_front, S_front n, ih]
    show g 0 + _ = _
    have h1 : (S n fun i => g (n - 1 - i + 1)) + g 0 = S (n + 1) fun i => g (n - i) := by
      show _ = (S n fun i => g (n - i)) + g (n - n)
      rw [Nat.sub_self, S_congr (g := fun i => g (n - 1 - i + 1)) (h := fun i => g (n - i)) fun i hi => by show g _ = g _; congr 1; omega]
    have h2 : (S (n + 1) fun i => g (n - i)) = g n + S n fun i => g (n - (i + 1)) := S_front n _
    show g 0 + (S n fun i => g (n - 1 - i + 1)) = g (n + 1 - 1 - 0) + S n fun i => g (n + 1 - 1 - (i + 1))
    rw [Int.add_comm, h1, h2]
    rfl
theorem S_swap (n m : Nat) (g : Nat → Nat → Int) : (S n fun i => S m fun j => g i j) = S m fun j => S n fun i => g i j := by
  induction n with
  | zero => simp only [S]; rw [S_zero]
  | succ n ih => simp only [S]; rw [ih, S_add]

def tot (l : List Edg) : Int := (l.map fun e => e.2.2).sum
theorem tot_append (l m : List Edg) : tot (l ++ m) = tot l + tot m := by unfold tot; rw [List.map_append, List.sum_append]
theorem tot_snoc (l : List Edg) (e : Edg) : tot (l ++ [e]) = tot l + e.2.2 := by rw [tot_append]; simp [tot]
theorem tot_wh1 (f : Fld) (x y : Int) : tot (wh1 f x y) = (f.rnd x y).tdiv 4 := by
  unfold wh1
  split
  · rename_i h; rw [h]; rfl
  · simp [tot]
theorem tot_whR (f : Fld) (y : Int) (n : Nat) : tot (whR f y n) = S n fun x => (f.rnd x y).tdiv 4 := by
  induction n with
  | zero => rfl
  | succ n ih => rw [whR_succ, tot_append, ih, tot_wh1]; rfl
theorem tot_whF (f : Fld) (n : Nat) : tot (whF f n) = S n fun y => S (f.W - 1).toNat fun x => (f.rnd x y).tdiv 4 := by
  induction n with
  | zero => rfl
  | succ n ih => rw [whF_succ, tot_append, ih, tot_whR]; rfl
theorem tot_whorls {f : Fld} (h : valid f = 0) : tot (whorls f) = S (f.H - 1).toNat fun y => S (f.W - 1).toNat fun x => (f.rnd x y).tdiv 4 := by
  unfold whorls
  rw [if_pos h, tot_whF]

/-- The quarter turn. -/
def unqE (H : Int) (e : Edg) : Edg := (e.2.1, H - 2 + e.2.2 - e.1, 1 - e.2.2)
theorem unqE_quaE (H : Int) (e : Edg) : unqE H (quaE H e) = e := by
  obtain ⟨x, y, u⟩ := e
  refine Prod.ext ?_ (Prod.ext ?_ ?_)
  all_goals first | rfl | (dsimp only [unqE, quaE]; omega)
theorem quaE_unqE (H : Int) (e : Edg) : quaE H (unqE H e) = e := by
  obtain ⟨x, y, u⟩ := e
  refine Prod.ext ?_ (Prod.ext ?_ ?_)
  all_goals first | rfl | (dsimp only [unqE, quaE]; omega)
theorem isE_qua {W H : Int} {e : Edg} (h : isE W H e = true) : isE H W (quaE H e) = true := by
  unfold isE quaE at *
  rw [decide_eq_true_eq] at *
  simp only
  omega
theorem isE_unq {W H : Int} {e : Edg} (h : isE H W e = true) : isE W H (unqE H e) = true := by
  unfold isE unqE at *
  rw [decide_eq_true_eq] at *
  simp only
  omega
theorem qua_dir {f : Fld} (h : Okf f) (x y : Int) (x0 : 0 ≤ x) (x1 : x < f.H) (y0 : 0 ≤ y) (y1 : y < f.W) : (quaF f).dir x y = (f.dir y (f.H - 1 - x) + 2) % 8 := by
  obtain ⟨a, rfl⟩ := Int.eq_ofNat_of_zero_le x0
  obtain ⟨b, rfl⟩ := Int.eq_ofNat_of_zero_le y0
  obtain ⟨i0, i1, i2, i3, i4⟩ := idx_bd h.h1 h.h2 h.w2 x0 x1 y0 y1
  unfold quaF
  rw [dir_range (by rw [Int.mul_comm f.W]; exact i3) i0]
  obtain ⟨Hn, hH⟩ := Int.eq_ofNat_of_zero_le (show 0 ≤ f.H by omega)
  have e : ((b : Int) * f.H + (a : Int)).toNat = b * Hn + a := by rw [hH]; omega
  rw [e, quaG_at hH (by omega)]
theorem qua_okf {f : Fld} (h : Okf f) : Okf (quaF f) := by
  have hw1 := h.w1
  have hh1 := h.h1
  have h0 : 0 ≤ f.W * f.H := Int.mul_nonneg (by omega) (by omega)
  refine ⟨h.h1, h.h2, h.w1, h.w2, ?_, ?_, ?_, ?_, sorted_map h.sorted (unqE_quaE f.H)⟩
  · show (((List.range (f.W * f.H).toNat).map (quaG f)).length : Int) = f.H * f.W
    rw [List.length_map, List.length_range, Int.mul_comm f.H]; omega
  · intro d hd
    unfold quaF at hd
    simp only [List.mem_map] at hd
    obtain ⟨i, _, rfl⟩ := hd
    unfold quaG
    omega
  · show (sortE _).length ≤ 60
    rw [sortE_length, List.length_map]; exact h.cnt
  · intro e he
    have he' : e ∈ sortE (f.ps.map (quaE f.H)) := he
    rw [mem_sortE, List.mem_map] at he'
    obtain ⟨a, ha, rfl⟩ := he'
    exact isE_qua (h.edge a ha)
theorem qua_trn {f : Fld} (h : valid f = 0) (e : Edg) (he : isE f.W f.H e = true) : (quaF f).trn (quaE f.H e) = (1 - 2 * e.2.2) * f.trn e := by
  have ok := okf_of_valid h
  have h4 := trn_ne h he
  obtain ⟨x, y, u⟩ := e
  unfold isE at he
  rw [decide_eq_true_eq] at he
  simp only at he
  refine trn_map (1 - 2 * u) (by omega) ?_ (mem_map_inv (unqE_quaE f.H) _) h4
  unfold Fld.bend quaE
  simp only
  rcases he with ⟨rfl, a1, a2, a3, a4⟩ | ⟨rfl, a1, a2, a3, a4⟩
  · rw [qua_dir ok _ _ (by omega) (by omega) (by omega) (by omega), qua_dir ok _ _ (by omega) (by omega) (by omega) (by omega)]
    rw [show f.H - 1 - (f.H - 1 - 0 - y + 1 - (1 - 0)) = y by omega, show f.H - 1 - (f.H - 1 - 0 - y) = y by omega, show x + (1 - 0) = x + 1 by omega, show x + 1 - 0 = x + 1 by omega, show y + 0 = y by omega]
    generalize f.dir (x + 1) y = p
    generalize f.dir x y = q
    exact ⟨(q + 2) / 8 - (p + 2) / 8, by omega⟩
  · rw [qua_dir ok _ _ (by omega) (by omega) (by omega) (by omega), qua_dir ok _ _ (by omega) (by omega) (by omega) (by omega)]
    rw [show f.H - 1 - (f.H - 1 - 1 - y + 1 - (1 - 1)) = y by omega, show f.H - 1 - (f.H - 1 - 1 - y) = y + 1 by omega, show x + (1 - 1) = x by omega, show x + 1 - 1 = x by omega]
    generalize f.dir x (y + 1) = p
    generalize f.dir x y = q
    exact ⟨(p + 2) / 8 - (q + 2) / 8, by omega⟩
theorem valid_qua {f : Fld} (h : valid f = 0) : valid (quaF f) = 0 := by
  have ok := okf_of_valid h
  refine valid_of_okf (qua_okf ok) ?_
  rintro ⟨e, he, h4⟩
  have he' : isE f.H f.W e = true := mem_edgesP.1 he
  have hu := isE_unq he'
  rw [← quaE_unqE f.H e, qua_trn h _ hu] at h4
  have hb := trn_bd f (unqE f.H e)
  have hn := trn_ne h hu
  unfold isE at he'
  rw [decide_eq_true_eq] at he'
  have : (unqE f.H e).2.2 = 0 ∨ (unqE f.H e).2.2 = 1 := by show 1 - e.2.2 = 0 ∨ 1 - e.2.2 = 1; omega
  rcases this with e0 | e0 <;> rw [e0] at h4 <;> omega
theorem qua_rnd {f : Fld} (h : valid f = 0) (x y : Int) (x0 : 0 ≤ x) (x1 : x < f.W - 1) (y0 : 0 ≤ y) (y1 : y < f.H - 1) : (quaF f).rnd (f.H - 2 - y) x = f.rnd x y := by
  have t1 := qua_trn h (x, y, 1) (by unfold isE; rw [decide_eq_true_eq]; simp; omega)
  have t2 := qua_trn h (x, y, 0) (by unfold isE; rw [decide_eq_true_eq]; simp; omega)
  have t3 := qua_trn h (x + 1, y, 1) (by unfold isE; rw [decide_eq_true_eq]; simp; omega)
  have t4 := qua_trn h (x, y + 1, 0) (by unfold isE; rw [decide_eq_true_eq]; simp; omega)
  unfold quaE at t1 t2 t3 t4
  simp only at t1 t2 t3 t4
  rw [show f.H - 1 - 1 - y = f.H - 2 - y by omega, show (1 : Int) - 1 = 0 by omega] at t1
  rw [show f.H - 1 - 0 - y = f.H - 2 - y + 1 by omega, show (1 : Int) - 0 = 1 by omega] at t2
  rw [show f.H - 1 - 1 - y = f.H - 2 - y by omega, show (1 : Int) - 1 = 0 by omega] at t3
  rw [show f.H - 1 - 0 - (y + 1) = f.H - 2 - y by omega, show (1 : Int) - 0 = 1 by omega] at t4
  unfold Fld.rnd
  rw [t1, t2, t3, t4]
  omega
theorem tot_qua {f : Fld} (h : valid f = 0) : tot (whorls (quaF f)) = tot (whorls f) := by
  rw [tot_whorls h, tot_whorls (valid_qua h)]
  have ok := okf_of_valid h
  have w1 := ok.w1
  have h1 := ok.h1
  show (S (f.W - 1).toNat fun y => S (f.H - 1).toNat fun x => ((quaF f).rnd x y).tdiv 4) = _
  rw [S_swap (f.H - 1).toNat]
  refine S_congr fun i hi => ?_
  rw [S_rev]
  refine S_congr fun j hj => ?_
  rw [← qua_rnd h (i : Int) (j : Int) (by omega) (by omega) (by omega) (by omega)]
  congr 2
  omega
theorem qua_four {f : Fld} (h : valid f = 0) : quaF (quaF (quaF (quaF f))) = f := by
  have ok := okf_of_valid h
  have o1 := qua_okf ok
  have o2 := qua_okf o1
  have o3 := qua_okf o2
  have o4 := qua_okf o3
  refine fld_ext o4 ok rfl rfl ?_ ?_
  · intro x y x0 x1 y0 y1
    have x1' : x < f.W := x1
    have y1' : y < f.H := y1
    have hd := dir_bd ok x y x0 x1' y0 y1'
    rw [qua_dir o3 x y x0 x1 y0 y1]
    rw [qua_dir o2 y _ y0 y1 (by show 0 ≤ f.W - 1 - x; omega) (by show f.W - 1 - x < f.W; omega)]
    rw [qua_dir o1 _ _ (by show 0 ≤ f.W - 1 - x; omega) (by show f.W - 1 - x < f.W; omega) (by show 0 ≤ f.H - 1 - y; omega) (by show f.H - 1 - y < f.H; omega)]
    rw [qua_dir ok _ _ (by show 0 ≤ f.H - 1 - y; omega) (by show f.H - 1 - y < f.H; omega) (by show 0 ≤ f.W - 1 - (f.W - 1 - x); omega) (by show f.W - 1 - (f.W - 1 - x) < f.W; omega)]
    show ((((f.dir (f.W - 1 - (f.W - 1 - x)) (f.H - 1 - (f.H - 1 - y)) + 2) % 8 + 2) % 8 + 2) % 8 + 2) % 8 = f.dir x y
    rw [show f.W - 1 - (f.W - 1 - x) = x by omega, show f.H - 1 - (f.H - 1 - y) = y by omega]
    omega
  · show sortE ((sortE ((sortE ((sortE (f.ps.map (quaE f.H))).map (quaE f.W))).map (quaE f.H))).map (quaE f.W)) = f.ps
    rw [sortE_map_sortE, List.map_map, sortE_map_sortE, List.map_map, sortE_map_sortE, List.map_map]
    have e : ∀ e : Edg, quaE f.W (quaE f.H (quaE f.W (quaE f.H e))) = e := by
      rintro ⟨x, y, u⟩
      refine Prod.ext ?_ (Prod.ext ?_ ?_)
      all_goals first | rfl | (dsimp only [quaE]; omega)
    rw [show (((quaE f.W ∘ quaE f.H) ∘ quaE f.W) ∘ quaE f.H) = id from funext e, List.map_id, sortE_of_lt ok.sorted]

/-- The mirror. -/
theorem mirE_mirE (W : Int) (e : Edg) : mirE W (mirE W e) = e := by
  obtain ⟨x, y, u⟩ := e
  refine Prod.ext ?_ (Prod.ext ?_ ?_)
  all_goals first | rfl | (dsimp only [mirE]; omega)
theorem isE_mir {W H : Int} {e : Edg} (h : isE W H e = true) : isE W H (mirE W e) = true := by
  unfold isE mirE at *
  rw [decide_eq_true_eq] at *
  simp only
  omega
theorem mir_dir {f : Fld} (h : Okf f) (x y : Int) (x0 : 0 ≤ x) (x1 : x < f.W) (y0 : 0 ≤ y) (y1 : y < f.H) : (mirF f).dir x y = (4 - f.dir (f.W - 1 - x) y) % 8 := by
  obtain ⟨a, rfl⟩ := Int.eq_ofNat_of_zero_le x0
  obtain ⟨b, rfl⟩ := Int.eq_ofNat_of_zero_le y0
  obtain ⟨i0, i1, i2, i3, i4⟩ := idx_bd h.w1 h.w2 h.h2 x0 x1 y0 y1
  unfold mirF
  rw [dir_range i3 i0]
  obtain ⟨Wn, hW⟩ := Int.eq_ofNat_of_zero_le (show 0 ≤ f.W by omega)
  have e : ((b : Int) * f.W + (a : Int)).toNat = b * Wn + a := by rw [hW]; omega
  rw [e, mirG_at hW (by omega)]
theorem mir_okf {f : Fld} (h : Okf f) : Okf (mirF f) := by
  have hw1 := h.w1
  have hh1 := h.h1
  have h0 : 0 ≤ f.W * f.H := Int.mul_nonneg (by omega) (by omega)
  refine ⟨h.w1, h.w2, h.h1, h.h2, ?_, ?_, ?_, ?_, sorted_map h.sorted (mirE_mirE f.W)⟩
  · show (((List.range (f.W * f.H).toNat).map (mirG f)).length : Int) = f.W * f.H
    rw [List.length_map, List.length_range]; omega
  · intro d hd
    unfold mirF at hd
    simp only [List.mem_map] at hd
    obtain ⟨i, _, rfl⟩ := hd
    unfold mirG
    omega
  · show (sortE _).length ≤ 60
    rw [sortE_length, List.length_map]; exact h.cnt
  · intro e he
    have he' : e ∈ sortE (f.ps.map (mirE f.W)) := he
    rw [mem_sortE, List.mem_map] at he'
    obtain ⟨a, ha, rfl⟩ := he'
    exact isE_mir (h.edge a ha)
theorem mir_trn {f : Fld} (h : valid f = 0) (e : Edg) (he : isE f.W f.H e = true) : (mirF f).trn (mirE f.W e) = (1 - 2 * e.2.2) * f.trn e := by
  have ok := okf_of_valid h
  have h4 := trn_ne h he
  obtain ⟨x, y, u⟩ := e
  unfold isE at he
  rw [decide_eq_true_eq] at he
  simp only at he
  refine trn_map (1 - 2 * u) (by omega) ?_ (mem_map_inv (mirE_mirE f.W) _) h4
  unfold Fld.bend mirE
  simp only
  rcases he with ⟨rfl, a1, a2, a3, a4⟩ | ⟨rfl, a1, a2, a3, a4⟩
  · rw [mir_dir ok _ _ (by omega) (by omega) (by omega) (by omega), mir_dir ok _ _ (by omega) (by omega) (by omega) (by omega)]
    rw [show f.W - 1 - (f.W - 2 + 0 - x + 1 - 0) = x by omega, show f.W - 1 - (f.W - 2 + 0 - x) = x + 1 by omega, show x + 1 - 0 = x + 1 by omega, show y + 0 = y by omega]
    generalize f.dir (x + 1) y = p
    generalize f.dir x y = q
    exact ⟨(4 - p) / 8 - (4 - q) / 8, by omega⟩
  · rw [mir_dir ok _ _ (by omega) (by omega) (by omega) (by omega), mir_dir ok _ _ (by omega) (by omega) (by omega) (by omega)]
    rw [show f.W - 1 - (f.W - 2 + 1 - x + 1 - 1) = x by omega, show f.W - 1 - (f.W - 2 + 1 - x) = x by omega, show x + 1 - 1 = x by omega]
    generalize f.dir x (y + 1) = p
    generalize f.dir x y = q
    exact ⟨(4 - q) / 8 - (4 - p) / 8, by omega⟩
theorem valid_mir {f : Fld} (h : valid f = 0) : valid (mirF f) = 0 := by
  have ok := okf_of_valid h
  refine valid_of_okf (mir_okf ok) ?_
  rintro ⟨e, he, h4⟩
  have he' : isE f.W f.H e = true := mem_edgesP.1 he
  have hu := isE_mir he'
  rw [← mirE_mirE f.W e, mir_trn h _ hu] at h4
  have hb := trn_bd f (mirE f.W e)
  have hn := trn_ne h hu
  unfold isE at he'
  rw [decide_eq_true_eq] at he'
  have : (mirE f.W e).2.2 = 0 ∨ (mirE f.W e).2.2 = 1 := by show e.2.2 = 0 ∨ e.2.2 = 1; omega
  rcases this with e0 | e0 <;> rw [e0] at h4 <;> omega
theorem mir_rnd {f : Fld} (h : valid f = 0) (x y : Int) (x0 : 0 ≤ x) (x1 : x < f.W - 1) (y0 : 0 ≤ y) (y1 : y < f.H - 1) : (mirF f).rnd (f.W - 2 - x) y = f.rnd x y := by
  have t1 := mir_trn h (x, y, 1) (by unfold isE; rw [decide_eq_true_eq]; simp; omega)
  have t2 := mir_trn h (x, y, 0) (by unfold isE; rw [decide_eq_true_eq]; simp; omega)
  have t3 := mir_trn h (x + 1, y, 1) (by unfold isE; rw [decide_eq_true_eq]; simp; omega)
  have t4 := mir_trn h (x, y + 1, 0) (by unfold isE; rw [decide_eq_true_eq]; simp; omega)
  unfold mirE at t1 t2 t3 t4
  simp only at t1 t2 t3 t4
  rw [show f.W - 2 + 1 - x = f.W - 2 - x + 1 by omega] at t1
  rw [show f.W - 2 + 0 - x = f.W - 2 - x by omega] at t2
  rw [show f.W - 2 + 1 - (x + 1) = f.W - 2 - x by omega] at t3
  rw [show f.W - 2 + 0 - x = f.W - 2 - x by omega] at t4
  unfold Fld.rnd
  rw [t1, t2, t3, t4]
  omega
theorem tot_mir {f : Fld} (h : valid f = 0) : tot (whorls (mirF f)) = tot (whorls f) := by
  rw [tot_whorls h, tot_whorls (valid_mir h)]
  have ok := okf_of_valid h
  have w1 := ok.w1
  have h1 := ok.h1
  show (S (f.H - 1).toNat fun y => S (f.W - 1).toNat fun x => ((mirF f).rnd x y).tdiv 4) = _
  refine S_congr fun j hj => ?_
  rw [S_rev]
  refine S_congr fun i hi => ?_
  rw [← mir_rnd h (i : Int) (j : Int) (by omega) (by omega) (by omega) (by omega)]
  congr 2
  omega
theorem mir_two {f : Fld} (h : valid f = 0) : mirF (mirF f) = f := by
  have ok := okf_of_valid h
  have o1 := mir_okf ok
  have o2 := mir_okf o1
  refine fld_ext o2 ok rfl rfl ?_ ?_
  · intro x y x0 x1 y0 y1
    have x1' : x < f.W := x1
    have y1' : y < f.H := y1
    have hd := dir_bd ok x y x0 x1' y0 y1'
    rw [mir_dir o1 x y x0 x1 y0 y1]
    rw [mir_dir ok _ _ (by show 0 ≤ f.W - 1 - x; omega) (by show f.W - 1 - x < f.W; omega) y0 y1']
    show (4 - (4 - f.dir (f.W - 1 - (f.W - 1 - x)) y) % 8) % 8 = f.dir x y
    rw [show f.W - 1 - (f.W - 1 - x) = x by omega]
    omega
  · show sortE ((sortE (f.ps.map (mirE f.W))).map (mirE f.W)) = f.ps
    rw [sortE_map_sortE, List.map_map, show (mirE f.W ∘ mirE f.W) = id from funext fun e => mirE_mirE f.W e, List.map_id, sortE_of_lt ok.sorted]

/-- The spin. -/
theorem spin_rnd {f : Fld} (h : valid f = 0) (k x y : Int) (x0 : 0 ≤ x) (x1 : x < f.W - 1) (y0 : 0 ≤ y) (y1 : y < f.H - 1) : (spinF f k).rnd x y = f.rnd x y := by
  have ok := okf_of_valid h
  unfold Fld.rnd
  rw [spin_trn ok k _ (by unfold isE; rw [decide_eq_true_eq]; simp; omega), spin_trn ok k _ (by unfold isE; rw [decide_eq_true_eq]; simp; omega), spin_trn ok k _ (by unfold isE; rw [decide_eq_true_eq]; simp; omega), spin_trn ok k _ (by unfold isE; rw [decide_eq_true_eq]; simp; omega)]
theorem tot_spin {f : Fld} (h : valid f = 0) (k : Int) : tot (whorls (spinF f k)) = tot (whorls f) := by
  rw [tot_whorls h, tot_whorls (valid_spin h k)]
  have ok := okf_of_valid h
  show (S (f.H - 1).toNat fun y => S (f.W - 1).toNat fun x => ((spinF f k).rnd x y).tdiv 4) = _
  refine S_congr fun j hj => S_congr fun i hi => ?_
  rw [spin_rnd h k _ _ (by omega) (by omega) (by omega) (by omega)]
theorem spin_back {f : Fld} (h : valid f = 0) (k : Int) : spinF (spinF f k) (-k) = f := by
  have ok := okf_of_valid h
  unfold spinF
  obtain ⟨W, H, ds, ps⟩ := f
  have hd := ok.dir
  simp only at hd ⊢
  congr 1
  rw [List.map_map]
  conv => rhs; rw [← List.map_id ds]
  refine List.map_congr_left fun d hm => ?_
  have := hd d hm
  show ((d + k) % 8 + -k) % 8 = d
  omega
end Go.Proofs.Ytahmdnboeenfkaa

namespace Go.Proofs.Ytahmdnboeenfkaa
open Go.RowKit Go.Sort

theorem GF.storeA {w1 w : World} {a b B : Nat} {v : FV} (h : GF w1 a b w B v) {g : Nat} (hA : v.A = some ⟨g, 0, none⟩) (ha : w1.heap.size ≤ g) (k : Nat) (z : Int) : GF w1 a b (w.setCell ⟨g, k, none⟩ (.int .i64 z)) B (v.withD (v.f.ds.set k z)) := by
  have hd := h.ds
  rw [hA] at hd
  obtain ⟨h1, h2⟩ := hd.stored k (.int .i64 z)
  rw [ints_set] at h1
  have hne : B ≠ g := fun e => h.nA _ hA e.symm
  refine ⟨h.box.far (p := ⟨g, k, none⟩) hne _, fun j => by rw [World.frozen?_setCell]; exact h.fz j, by show World.ownsRow _ _ _ _ (.slice v.A v.n v.c) _ _; rw [hA]; exact h1, ?_, h.ne, h.nA, h.nB, h.bel.setCell (p := ⟨g, k, none⟩) ha _, h.hB, h.ha, h.hb⟩
  refine row_far h.ps (fun j hj => ?_) _
  obtain ⟨q, hq, rfl⟩ := own_blk hj
  exact (h.ne _ q hA hq).symm
theorem madeCells_zero (n : Nat) : (madeCells #[.int .i64 0] n).toList = ints (List.replicate n 0) := by
  apply List.ext_getElem?
  intro i
  simp [madeCells, ints, List.getElem?_replicate]
  by_cases h : i < n <;> simp [h, Nat.mod_one]
theorem mk22 (n : Nat) (hn : n ≤ 1000000) (w : World) : (Instr.makeSlice 22 (.int .i64 (n : Int)) (.int .i64 (n : Int))).run Try.prog w = .ok (.slice (some ⟨w.heap.size, 0, none⟩) n n) (w.alloc (.cells (madeCells #[.int .i64 0] n) 3)) := by
  obtain ⟨i0, hi, hz0, hz1, hz2⟩ := info_parts info3
  have h := run_make (P := Try.prog) w 22 3 i0 _ Try.underlying22 hi hz0 .i64 .i64 n n (by omega) (Int.le_refl _) (by rw [hz2]; omega) (by omega)
  rw [hz1, Int.toNat_natCast, Nat.mul_one] at h
  exact h
theorem row_zero (w : World) (n : Nat) (hn : n ≤ 1000000) {base : Nat} (hb : base ≤ w.heap.size) : (w.alloc (.cells (madeCells #[.int .i64 0] n) 3)).ownsRow base 3 1 (.slice (some ⟨w.heap.size, 0, none⟩) n n) n (ints (List.replicate n 0)) := by
  have := World.ownsRow_lit (base := base) (e := 3) (size := 1) w (madeCells #[.int .i64 0] n) n hb (by unfold maxLen; omega) (by rw [size_madeCells]; omega)
  rwa [madeCells_zero] at this

/-- The squares of a field that is turned, as far as they are visited: y columns, and x squares of the next one. -/
def visL (g : Nat → Int) (H n y x : Nat) : List Int := (List.range n).map fun p => if H - 1 - p % H < y ∨ (H - 1 - p % H = y ∧ p / H < x) then g p else 0
theorem visL_zero (g : Nat → Int) (H n : Nat) : visL g H n 0 0 = List.replicate n 0 := by
  apply List.ext_getElem?
  intro i
  unfold visL
  by_cases h : i < n <;> simp [h]
theorem visL_length (g : Nat → Int) (H n y x : Nat) : (visL g H n y x).length = n := by simp [visL]
theorem visL_row (g : Nat → Int) (H W y : Nat) (hH : 0 < H) : visL g H (W * H) y W = visL g H (W * H) (y + 1) 0 := by
  unfold visL
  refine List.map_congr_left fun p hp => ?_
  have h1 : p / H < W := by rw [Nat.div_lt_iff_lt_mul hH]; exact List.mem_range.1 hp
  generalize p / H = q at *
  generalize p % H = r at *
  by_cases h : H - 1 - r < y ∨ (H - 1 - r = y ∧ q < W)
  · rw [if_pos h, if_pos (by omega)]
  · rw [if_neg h, if_neg (by omega)]
theorem visL_all (g : Nat → Int) (H n y : Nat) (hH : 0 < H) (hy : H ≤ y) : visL g H n y 0 = (List.range n).map g := by
  unfold visL
  refine List.map_congr_left fun p _ => ?_
  have := Nat.mod_lt p hH
  rw [if_pos (by omega)]
theorem visL_set (g : Nat → Int) (H W y x : Nat) (hy : y < H) (hx : x < W) : (visL g H (W * H) y x).set (x * H + (H - 1 - y)) (g (x * H + (H - 1 - y))) = visL g H (W * H) y (x + 1) := by
  have hH : 0 < H := by omega
  have hlt : x * H + (H - 1 - y) < W * H := by
    have := Nat.mul_le_mul_right H (show x + 1 ≤ W by omega)
    rw [Nat.add_mul, Nat.one_mul] at this
    omega
  have hm : (x * H + (H - 1 - y)) % H = H - 1 - y := by rw [Nat.add_comm, Nat.add_mul_mod_self_right, Nat.mod_eq_of_lt (by omega)]
  have hd : (x * H + (H - 1 - y)) / H = x := by rw [Nat.add_comm, Nat.add_mul_div_right _ _ hH, Nat.div_eq_of_lt (by omega), Nat.zero_add]
  apply List.ext_getElem?
  intro p
  rw [List.getElem?_set]
  by_cases hp : x * H + (H - 1 - y) = p
  · subst hp
    rw [if_pos rfl, if_pos (by rw [visL_length]; exact hlt)]
    unfold visL
    simp only [List.getElem?_map, List.getElem?_range hlt, Option.map_some]
    rw [hm, hd, if_pos (by omega)]
  · rw [if_neg hp]
    unfold visL
    simp only [List.getElem?_map]
    rcases Nat.lt_or_ge p (W * H) with h | h
    · rw [List.getElem?_range h]
      simp only [Option.map_some]
      congr 1
      have h1 := Nat.div_add_mod p H
      have h2 := Nat.mod_lt p hH
      have hne : ¬ (H - 1 - p % H = y ∧ p / H = x) := fun ⟨e1, e2⟩ => hp (by rw [← h1, e2, Nat.mul_comm H x]; omega)
      by_cases hc : H - 1 - p % H < y ∨ (H - 1 - p % H = y ∧ p / H < x)
      · rw [if_pos hc, if_pos (by omega)]
      · rw [if_neg hc, if_neg (by omega)]
    · rw [List.getElem?_eq_none (by simpa using h)]
      simp
theorem quaG_at2 {f : Fld} {x y Hn : Nat} (hH : f.H = (Hn : Int)) (hy : y < Hn) : quaG f (x * Hn + (Hn - 1 - y)) = (f.dir (x : Int) (y : Int) + 2) % 8 := by
  rw [quaG_at hH (by omega)]
  congr 3
  omega
theorem take_map_succ {h : Edg → Edg} {k : Nat} {l : List Edg} {e : Edg} (he : l[k]? = some e) : (l.take k).map h ++ [h e] = (l.take (k + 1)).map h := by
  obtain ⟨hk, rfl⟩ := List.getElem?_eq_some_iff.1 he
  rw [List.take_succ_eq_append_getElem hk, List.map_append]; rfl

/-- A field with zeros and its box, made just now in either order. -/
theorem GF.made2 (w1 : World) (W H : Int) (n : Nat) (hn : n ≤ 1000000) :
    GF w1 w1.heap.size (w1.heap.size + 2) (((w1.alloc (.cells (madeCells #[.int .i64 0] n) 3)).alloc (.cells #[.int .i64 W, .int .i64 H, .slice (some ⟨w1.heap.size, 0, none⟩) n n, .slice none 0 0] 25)).drew) (w1.heap.size + 1) ⟨⟨W, H, List.replicate n 0, []⟩, some ⟨w1.heap.size, 0, none⟩, none, n, n, 0, 0⟩ := by
  refine ⟨(Box.new2 w1 (madeCells #[.int .i64 0] n) _ 3 25).drew, ?_, ?_, World.ownsRow_nil _ _ _ _, ?_, ?_, ?_, below_drewN' (belowAA w1 _ _) 1, Nat.le_succ _, Nat.le_refl _, Nat.le_add_right _ _⟩
  · intro i
    have := fz_new (w1.alloc (.cells (madeCells #[.int .i64 0] n) 3)) #[.int .i64 W, .int .i64 H, .slice (some ⟨w1.heap.size, 0, none⟩) n n, .slice none 0 0] 25 i
    rw [World.size_alloc] at this
    exact this
  · exact (row_on (row_zero w1 n hn (Nat.le_refl _)) (belowA _ _)).drew
  · intro p q _ h; cases h
  · intro p h; injection h with h; subst h; show w1.heap.size ≠ w1.heap.size + 1; omega
  · intro p h; cases h
theorem GF.made1 (w1 : World) (W H : Int) (n : Nat) (hn : n ≤ 1000000) :
    GF w1 w1.heap.size (w1.heap.size + 2) (((w1.alloc (.cells #[.int .i64 W, .int .i64 H, .slice (some ⟨w1.heap.size + 1, 0, none⟩) n n, .slice none 0 0] 25)).alloc (.cells (madeCells #[.int .i64 0] n) 3)).drew) w1.heap.size ⟨⟨W, H, List.replicate n 0, []⟩, some ⟨w1.heap.size + 1, 0, none⟩, none, n, n, 0, 0⟩ := by
  refine ⟨((Box.new w1 _ 25).alloc _).drew, ?_, ?_, World.ownsRow_nil _ _ _ _, ?_, ?_, ?_, below_drewN' (belowAA w1 _ _) 1, Nat.le_refl _, Nat.le_refl _, Nat.le_add_right _ _⟩
  · intro i
    have := fz_below (Box.new w1 #[.int .i64 W, .int .i64 H, .slice (some ⟨w1.heap.size + 1, 0, none⟩) n n, .slice none 0 0] 25).1 (fz_new w1 #[.int .i64 W, .int .i64 H, .slice (some ⟨w1.heap.size + 1, 0, none⟩) n n, .slice none 0 0] 25) (belowA _ (.cells (madeCells #[.int .i64 0] n) 3)) i
    exact this
  · have h := row_zero (w1.alloc (.cells #[.int .i64 W, .int .i64 H, .slice (some ⟨w1.heap.size + 1, 0, none⟩) n n, .slice none 0 0] 25)) n hn (base := w1.heap.size) (by simp)
    rw [World.size_alloc] at h
    exact h.drew
  · intro p q _ h; cases h
  · intro p h; injection h with h; subst h; show w1.heap.size + 1 ≠ w1.heap.size; omega
  · intro p h; cases h
end Go.Proofs.Ytahmdnboeenfkaa

namespace Go.Proofs.Ytahmdnboeenfkaa
open Go.RowKit Go.Sort

set_option maxHeartbeats 4000000 in
set_option maxRecDepth 100000 in
theorem Quarter_any (v : FV) (w : World) (hv : v.In w) :
    Calls Try.prog 51 #[v.val] w (RetOwn (quaR v.f).1 (quaR v.f).2 w) := by
  have HVv := Lib.hid hv
  clear hv
  go_enter Try.func51, Try.ntmps51
  dsimp only [FV.val]
  go_wp2_with fail
  with_reducible refine (validate_any v _ (HVv.out.below (belowAA _ _ _))).mono ?_
  rintro r w1 ⟨rfl, hb1⟩
  have hR := (ResB.new w #[.int .i64 v.f.W, .int .i64 v.f.H, .slice v.A v.n v.c, .slice v.B v.m v.d] 25).on hb1
  have b0 := ((Box.new w #[.int .i64 v.f.W, .int .i64 v.f.H, .slice v.A v.n v.c, .slice v.B v.m v.d] 25).alloc (.cells #[.int .i64 0, .int .i64 0, .slice none 0 0, .slice none 0 0] 25)).below hb1
  have hw1 := Lib.hid (below2 _ _ hb1)
  clear hb1
  by_cases hz : valid v.f = 0
  case neg =>
    have hz' : (valid v.f != 0) = true := by simpa using hz
    have HF := Lib.hid (quaR_bad hz)
    have HR := Lib.hid hR
    have cr := hR.box.at
    have fr := hR.fz
    clear hz hR
    go_wp2_with fail
    have cF := (HR.out.box.four (.int .i64 0) (.int .i64 0) (.slice none 0 0) (.slice none 0 0)).at
    exact bodyPost_ret (v := .tuple #[.agg #[.int .i64 0, .int .i64 0, .slice none 0 0, .slice none 0 0], .int .i64 (valid v.f)]) (by simp [results, Try.results51, go_sem, cF]) rfl
      ⟨⟨zeroF, none, none, 0, 0, 0, 0⟩, by rw [HF.out], by rw [HF.out]; rfl, FOwn.zero _ _, res_bel HR.out.bel HR.out.le _ _ _ _⟩
  have ok := Lib.hid (okf_of_valid hz)
  have hz' : (valid v.f != 0) = false := by simpa using hz
  have HS := Lib.hid (quaR_ok hz)
  have HZ := Lib.hid hz
  have HV1 := Lib.hid (HVv.out.below hw1.out)
  have HRR := Lib.hid hR
  obtain ⟨n0, m0⟩ := okf_lens (okf_of_valid hz)
  have okw := ok.out.w2
  have okw1 := ok.out.w1
  have okh := ok.out.h2
  have okh1 := ok.out.h1
  have HN0 := Lib.hid n0
  have HM0 := Lib.hid m0
  have HM1 := Lib.hid (show v.m = v.f.ps.length from HVv.out.lenp)
  have hml : v.m ≤ 60 := by rw [HM1.out]; exact HM0.out
  obtain ⟨Wn, hWn⟩ := Int.eq_ofNat_of_zero_le (show 0 ≤ v.f.W by omega)
  obtain ⟨Hn, hHn⟩ := Int.eq_ofNat_of_zero_le (show 0 ≤ v.f.H by omega)
  have HW := Lib.hid hWn
  have HH := Lib.hid hHn
  have hWn1 : (Wn : Int) ≤ v.f.W := by omega
  have hWn2 : v.f.W ≤ (Wn : Int) := by omega
  have hHn1 : (Hn : Int) ≤ v.f.H := by omega
  have hHn2 : v.f.H ≤ (Hn : Int) := by omega
  have hnl : (v.n : Int) = v.f.W * v.f.H := by rw [← ok.out.len]; exact_mod_cast HVv.out.len
  have hnl2 : v.n = Wn * Hn := by
    rw [hWn, hHn] at hnl
    exact_mod_cast hnl
  have hn1 : v.n ≤ 144 := by rw [show v.n = v.f.ds.length from HVv.out.len]; exact n0
  have HNL := Lib.hid hnl2
  have hWH : Wn * Hn ≤ 144 := by rw [← hnl2]; exact hn1
  clear hz hR n0 m0 hWn hHn hnl hnl2
  have HMK := Lib.hid (mk22 v.n (by omega))
  have mk := HMK.out
  have c0 := b0.at
  have c0A := fun o => (b0.alloc o).at
  go_wp2_with fail
  have hlt1 := HRR.out.box.1
  have hne1 : w.heap.size ≠ w1.heap.size := by omega
  have hne2 : w.heap.size ≠ w1.heap.size + 1 := by omega
  go_region_held3 (fun w' => ∀ i, w'.cell? ⟨w.heap.size, i, none⟩ = (#[.int .i64 v.f.W, .int .i64 v.f.H, .slice v.A v.n v.c, .slice v.B v.m v.d] : Array Value)[i]?) (first | exact b0.drew.at | exact (b0.alloc _).drew.at | exact ((b0.alloc _).alloc _).drew.at | exact ((((((b0.alloc _).alloc _).drew).far hne2 _).far hne2 _).far hne2 _ |>.far hne2 _).at | exact ((((((b0.alloc _).alloc _).drew).far hne1 _).far hne1 _).far hne1 _ |>.far hne1 _).at) (first | fail)
  · have c0AA := fun o o' => ((b0.alloc o).alloc o').drew.at
    have hgA := Lib.hid (GF.made2 w1 v.f.H v.f.W v.n (by omega))
    clear c0 c0A mk
    go_wp2_with fail
    clear c0AA
    refine wp_gen (fun W => (∃ A, A = some (⟨w1.heap.size, 0, none⟩ : Addr) ∧ GF w1 w1.heap.size (w1.heap.size + 2) W (w1.heap.size + 1) ⟨⟨v.f.H, v.f.W, List.replicate v.n 0, []⟩, A, none, v.n, v.n, 0, 0⟩) ∧ w1.heap.size + 2 ≤ W.heap.size) ⟨⟨_, rfl, hgA.out⟩, by show _ ≤ ((w1.alloc _).alloc _).heap.size; simp⟩ ?_
    rintro w3 ⟨⟨A, hA, hg3⟩, hz3⟩
    have HA := Lib.hid hA
    have HG3 := Lib.hid hg3
    clear hA hg3 hgA
    have hHn0 : 0 < Hn := by omega
    go_loopw [27] (fun i wr => ∃ y : Nat, (y : Int) ≤ v.f.H ∧ i = .int .i64 y ∧ GF w1 w1.heap.size (w1.heap.size + 2) wr (w1.heap.size + 1) ⟨⟨v.f.H, v.f.W, visL (quaG v.f) Hn (Wn * Hn) y 0, []⟩, A, none, v.n, v.n, 0, 0⟩ ∧ w1.heap.size + 2 ≤ wr.heap.size) (fun i _ => (v.f.H - intOf i).toNat)
    case atStart => exact ⟨0, by omega, rfl, by rw [visL_zero, ← HNL.out]; exact HG3.out, hz3⟩
    case round =>
      clear hz3
      obtain ⟨y, hy, rfl, hgy, hzy⟩ := hrel
      have HGy := Lib.hid hgy
      have b3 := b0.below hgy.bel
      by_cases hlty : (y : Int) < v.f.H
      · have c0 := b3.at
        have co := HGy.out.box.at
        clear hgy
        go_wp2_with fail
        clear c0 co
        go_loopw [32] (fun i wr => ∃ x : Nat, (x : Int) ≤ v.f.W ∧ i = .int .i64 x ∧ GF w1 w1.heap.size (w1.heap.size + 2) wr (w1.heap.size + 1) ⟨⟨v.f.H, v.f.W, visL (quaG v.f) Hn (Wn * Hn) y x, []⟩, A, none, v.n, v.n, 0, 0⟩ ∧ w1.heap.size + 2 ≤ wr.heap.size) (fun i _ => (v.f.W - intOf i).toNat)
        case atStart => exact ⟨0, by omega, rfl, HGy.out, hzy⟩
        case round =>
          clear b3 hzy
          obtain ⟨x, hx, rfl, hgx, hzx⟩ := hrel
          have HGx := Lib.hid hgx
          have b3 := b0.below hgx.bel
          by_cases hltx : (x : Int) < v.f.W
          · have hxW : x < Wn := by omega
            have hyH : y < Hn := by omega
            have hp0 : x * Hn + (Hn - 1 - y) < v.n := by
              rw [HNL.out]
              have := Nat.mul_le_mul_right Hn (show x + 1 ≤ Wn by omega)
              rw [Nat.add_mul, Nat.one_mul] at this
              omega
            have hke : (x : Int) * v.f.H + v.f.H - 1 - (y : Int) = ((x * Hn + (Hn - 1 - y) : Nat) : Int) := by
              rw [HH.out, Int.natCast_add, Int.natCast_mul]; omega
            have j0 : 0 ≤ (x : Int) * v.f.H := Int.mul_nonneg (by omega) (by omega)
            have j1 : (x : Int) * v.f.H + v.f.H ≤ 1000000 := by omega
            have X : ∀ w, (Instr.indexAt 22 (.slice A v.n v.n) (.int .i64 ((x : Int) * v.f.H + v.f.H - 1 - (y : Int)))).run Try.prog w = .ok (.pointer (some ⟨w1.heap.size, x * Hn + (Hn - 1 - y), none⟩)) w := fun w => by
              have := ix22 (c := v.n) HA.out hp0 w
              rw [← hke] at this
              rwa [show (⟨w1.heap.size, 0, none⟩ : Addr).add (x * Hn + (Hn - 1 - y)) = ⟨w1.heap.size, x * Hn + (Hn - 1 - y), none⟩ by unfold Addr.add; split <;> simp_all] at this
            have HSET := Lib.hid (visL_set (quaG v.f) Hn Wn y x hyH hxW)
            have HGV := Lib.hid (quaG_at2 (f := v.f) (x := x) HH.out hyH)
            have hdb := dir_bd ok.out (x : Int) (y : Int) (by omega) hltx (by omega) hlty
            obtain ⟨db0, db1⟩ := hdb
            have hpd : x * Hn + (Hn - 1 - y) < (visL (quaG v.f) Hn (Wn * Hn) y x).length := by rw [visL_length, ← HNL.out]; exact hp0
            obtain ⟨d9, hd9⟩ : ∃ d, (visL (quaG v.f) Hn (Wn * Hn) y x)[x * Hn + (Hn - 1 - y)]? = some d := ⟨_, List.getElem?_eq_getElem hpd⟩
            obtain ⟨g', hg', hgl, hgw, d0, z0⟩ := hgx.own.atD (k := x * Hn + (Hn - 1 - y)) hd9
            obtain rfl : g' = w1.heap.size := by
              have : some (⟨g', 0, none⟩ : Addr) = some ⟨w1.heap.size, 0, none⟩ := hg'.symm.trans HA.out
              injection this with this
              injection this
            have HV3 := Lib.hid (HV1.out.below hgx.bel)
            have Q0 := Lib.hid (fun w5 (hb : Below wr.heap.size wr w5) => at_any v (x : Int) (y : Int) w5 (HV3.out.below hb) ok.out.size (by omega) hltx (by omega) hlty)
            have co := hgx.box.rg
            have c3 := b3.rg
            have hgl' := Lib.hid hgl
            have hgw' := Lib.hid hgw
            have D0 := Lib.hid d0
            have Z0 := Lib.hid z0
            clear hgx hg' hp0 hke d0 z0 hgl hgw hpd hd9
            go_wp2_with fail
            generalize v.f.dir (x : Int) (y : Int) = dd at db0 db1 HGV Q0
            refine wp_region_qt 19 mixed (by kernel_rfl) ?_
            simp only [List.take_succ_cons, List.take_zero, List.drop_succ_cons, List.drop_zero]
            repeat (go_big_quiet_step (first | exact rg_call Q0.out _ _ | exact rg_call (fun w _ => mod_b _ w) _ _))
            refine wpQuiet_nil ?_
            intro w4 hb4
            have d4 := (hb4.cell (p := ⟨w1.heap.size, x * Hn + (Hn - 1 - y), none⟩) hgw'.out).trans D0.out
            have z4 := (hb4.frozen (p := ⟨w1.heap.size, x * Hn + (Hn - 1 - y), none⟩) hgw'.out).trans (Z0.out (x * Hn + (Hn - 1 - y)))
            have HO5 := Lib.hid ((HGx.out.on hb4).storeA HA.out hgl'.out (x * Hn + (Hn - 1 - y)) (quaG v.f (x * Hn + (Hn - 1 - y))))
            have hz4 : w1.heap.size + 2 ≤ w4.heap.size := Nat.le_trans hzx hb4.size
            rw [← HGV.out]
            clear hb4 co c3 b3 X D0 Z0
            go_wp2_with fail
            go_roundw
            case rel => exact ⟨x + 1, by omega, by go_num, by rw [← HSET.out]; exact HO5.out, by rw [size_set]; exact hz4⟩
            case measure => simp [intOf]; omega
          · have hxe : x = Wn := by omega
            have HG4 := Lib.hid (show GF w1 w1.heap.size (w1.heap.size + 2) wr (w1.heap.size + 1) ⟨⟨v.f.H, v.f.W, visL (quaG v.f) Hn (Wn * Hn) (y + 1) 0, []⟩, A, none, v.n, v.n, 0, 0⟩ by have h := hgx; rw [hxe, visL_row _ _ _ _ hHn0] at h; exact h)
            have c3 := b3.at
            clear hgx hxe
            go_wp2_with fail
            go_roundw
            case rel => exact ⟨y + 1, by omega, by go_num, HG4.out, hzx⟩
            case measure => simp [intOf]; omega
      · have HD := Lib.hid (show GF w1 w1.heap.size (w1.heap.size + 2) wr (w1.heap.size + 1) ⟨⟨v.f.H, v.f.W, (quaF v.f).ds, []⟩, A, none, v.n, v.n, 0, 0⟩ by
          have h1 : (quaF v.f).ds = visL (quaG v.f) Hn (Wn * Hn) y 0 := by
            rw [visL_all _ _ _ _ hHn0 (by omega)]
            unfold quaF
            rw [HW.out, HH.out]
            rfl
          rw [h1]; exact hgy)
        have c3 := b3.at
        clear hgy HGy HG3
        go_wp2_with fail
        clear c3
        clear hy hlty b3
        have hAb := Lib.hid (show ∀ p, A = some p → p.block < w1.heap.size + 2 from fun p hp => by rw [HA.out] at hp; injection hp with hp; subst hp; show w1.heap.size < _; omega)
        go_loopw [59] (fun i wr => ∃ k : Nat, k ≤ v.m ∧ i = .int .i64 k ∧ (∃ Bp d, GF w1 w1.heap.size (w1.heap.size + 2) wr (w1.heap.size + 1) ⟨⟨v.f.H, v.f.W, (quaF v.f).ds, (v.f.ps.take k).map (quaE v.f.H)⟩, A, Bp, v.n, v.n, k, d⟩) ∧ w1.heap.size + 2 ≤ wr.heap.size) (fun i _ => v.m - (intOf i).toNat)
        case atStart => exact ⟨0, by omega, rfl, ⟨none, 0, HD.out⟩, hzy⟩
        case round =>
          clear hzy
          obtain ⟨k, hk, rfl, ⟨Bp, dp, hgk⟩, hzk⟩ := hrel
          have HGk := Lib.hid hgk
          have b3 := b0.below hgk.bel
          by_cases hlt : k < v.m
          · obtain ⟨ad, e, e1, hbk, he, d0, d1, d2⟩ := psat (HV1.out.below hgk.bel).ps (k := k) (by rw [← HM1.out]; exact hlt)
            have X := fun w => ix23 (c := v.d) e1 hlt w
            have HEB := Lib.hid (isE_bd2 (ok.out.edge e (List.mem_of_getElem? he)))
            have HPS := Lib.hid (take_map_succ (h := quaE v.f.H) he)
            obtain ⟨x, y', up⟩ := e
            obtain ⟨x0, x1, up01⟩ := HEB.out
            dsimp only at x0 x1 up01
            have co := hgk.box.at
            have coA := fun o => (hgk.box.alloc o).at
            have c3 := b3.at
            have c3A := fun o => (b3.alloc o).at
            clear hgk he e1 b3
            rcases up01 with rfl | rfl
            · have HQE := Lib.hid (show quaE v.f.H (x, y', 0) = (v.f.H - 1 - y', x, 1) from Prod.ext (by show v.f.H - 1 - 0 - y' = v.f.H - 1 - y'; omega) rfl)
              go_wp2_with (at_builtin; refine wpList_pushGE rfl _ _ rfl (w1.heap.size + 2) _ _ k ((v.f.ps.take k).map (quaE v.f.H)) (v.f.H - 1 - y', x, 1) _ rfl (HGk.out.on (belowAA _ _ _)).ps (by simp only [World.size_alloc]; omega) rfl (Box.new2 _ _ _ _ _) (by omega) ?_; intro B' d' w6 hr1 hr2; have g5 := Lib.hid (HGk.out.on (belowAA wr (Obj.cells #[.int .i64 x, .int .i64 y', .int .i64 0] 33) (Obj.cells #[.int .i64 (v.f.H - 1 - y'), .int .i64 x, .int .i64 1] 33))); have hbl := Lib.hid (g5.out.belB (by simp only [World.size_alloc]; omega) hr2); have bx6 := g5.out.box.under hbl.out (by omega); have c6 := bx6.at; have f6 := (fun i => by rw [hbl.out.frozen (p := ⟨(w1.heap.size + 1), i, none⟩) (by show (w1.heap.size + 1) < _; omega)]; exact g5.out.fz i : ∀ i, w6.frozen? ⟨(w1.heap.size + 1), i, none⟩ = false); have HG6 := Lib.hid (g5.out.putB hAb.out (by omega) (by simp only [World.size_alloc]; omega) hr1 hr2); have hz6 : w1.heap.size + 2 ≤ w6.heap.size := (by have := hbl.out.size; simp only [World.size_alloc] at this; omega); clear hr1 hr2 co coA c3 c3A d0 d1 d2)
              have HPS2 := Lib.hid (show (v.f.ps.take k).map (quaE v.f.H) ++ [(v.f.H - 1 - y', x, 1)] = (v.f.ps.take (k + 1)).map (quaE v.f.H) by rw [← HQE.out]; exact HPS.out)
              clear bx6 c6 f6 X HQE
              go_roundw
              case rel => exact ⟨k + 1, by omega, by go_num, ⟨B', d', by rw [← HPS2.out]; exact HG6.out⟩, by rw [size_set]; exact hz6⟩
              case measure => simp [intOf]; omega
            · have HQE := Lib.hid (show quaE v.f.H (x, y', 1) = (v.f.H - 2 - y', x, 0) from Prod.ext (by show v.f.H - 1 - 1 - y' = v.f.H - 2 - y'; omega) rfl)
              go_wp2_with (at_builtin; refine wpList_pushGE rfl _ _ rfl (w1.heap.size + 2) _ _ k ((v.f.ps.take k).map (quaE v.f.H)) (v.f.H - 2 - y', x, 0) _ rfl (HGk.out.on (belowAA _ _ _)).ps (by simp only [World.size_alloc]; omega) rfl (Box.new2 _ _ _ _ _) (by omega) ?_; intro B' d' w6 hr1 hr2; have g5 := Lib.hid (HGk.out.on (belowAA wr (Obj.cells #[.int .i64 x, .int .i64 y', .int .i64 1] 33) (Obj.cells #[.int .i64 (v.f.H - 2 - y'), .int .i64 x, .int .i64 0] 33))); have hbl := Lib.hid (g5.out.belB (by simp only [World.size_alloc]; omega) hr2); have bx6 := g5.out.box.under hbl.out (by omega); have c6 := bx6.at; have f6 := (fun i => by rw [hbl.out.frozen (p := ⟨(w1.heap.size + 1), i, none⟩) (by show (w1.heap.size + 1) < _; omega)]; exact g5.out.fz i : ∀ i, w6.frozen? ⟨(w1.heap.size + 1), i, none⟩ = false); have HG6 := Lib.hid (g5.out.putB hAb.out (by omega) (by simp only [World.size_alloc]; omega) hr1 hr2); have hz6 : w1.heap.size + 2 ≤ w6.heap.size := (by have := hbl.out.size; simp only [World.size_alloc] at this; omega); clear hr1 hr2 co coA c3 c3A d0 d1 d2)
              have HPS2 := Lib.hid (show (v.f.ps.take k).map (quaE v.f.H) ++ [(v.f.H - 2 - y', x, 0)] = (v.f.ps.take (k + 1)).map (quaE v.f.H) by rw [← HQE.out]; exact HPS.out)
              clear bx6 c6 f6 X HQE
              go_roundw
              case rel => exact ⟨k + 1, by omega, by go_num, ⟨B', d', by rw [← HPS2.out]; exact HG6.out⟩, by rw [size_set]; exact hz6⟩
              case measure => simp [intOf]; omega
          · have hres : Calls Try.prog 84 #[(⟨⟨v.f.H, v.f.W, (quaF v.f).ds, (v.f.ps.take k).map (quaE v.f.H)⟩, A, Bp, v.n, v.n, k, dp⟩ : FV).val] wr (RetOwn (fin (quaF v.f)) (valid (quaF v.f)) w1) := by
              have h := result_any ⟨⟨v.f.H, v.f.W, (quaF v.f).ds, (v.f.ps.take k).map (quaE v.f.H)⟩, A, Bp, v.n, v.n, k, dp⟩ w1 wr hgk.bel HGk.out.own (by show k ≤ _; omega)
              have e : srt (⟨v.f.H, v.f.W, (quaF v.f).ds, (v.f.ps.take k).map (quaE v.f.H)⟩ : Fld) = quaF v.f := by
                rw [List.take_of_length_le (by rw [← HM1.out]; omega)]; rfl
              dsimp only at h
              rw [e] at h
              exact h
            have HRES := Lib.hid hres
            have co := hgk.box.at
            have c3 := b3.at
            clear hgk hres
            go_wp2_with fail
            with_reducible refine HRES.out.mono ?_
            rintro r w5 ⟨u', hu', rfl, ho5, hb5⟩
            have HU' := Lib.hid hu'
            have HO5 := Lib.hid ho5
            have HR5 := Lib.hid (HRR.out.on hb5)
            have cr := HR5.out.box.at
            have fr := HR5.out.fz
            clear hu' ho5 hb5 co c3 b3
            dsimp only [FV.val]
            go_wp2_with fail
            have cF := (HR5.out.box.four (.int .i64 u'.f.W) (.int .i64 u'.f.H) (.slice u'.A u'.n u'.c) (.slice u'.B u'.m u'.d)).at
            have HE := res_own HO5.out hlt1 HR5.out.bel HR5.out.le hw1.out.size (.int .i64 u'.f.W) (.int .i64 u'.f.H) (.slice u'.A u'.n u'.c) (.slice u'.B u'.m u'.d)
            exact bodyPost_ret (v := .tuple #[.agg #[.int .i64 u'.f.W, .int .i64 u'.f.H, .slice u'.A u'.n u'.c, .slice u'.B u'.m u'.d], .int .i64 (valid (quaF v.f))]) (by simp [results, Try.results51, go_sem, cF]) rfl
              ⟨u', by rw [HU'.out, HS.out], by rw [HS.out], HE.1, HE.2⟩
  · have c0AA := fun o o' => ((b0.alloc o).alloc o').drew.at
    have hgA := Lib.hid (GF.made1 w1 v.f.H v.f.W v.n (by omega))
    clear c0 c0A mk
    go_wp2_with fail
    clear c0AA
    refine wp_gen (fun W => (∃ A, A = some (⟨(w1.heap.size + 1), 0, none⟩ : Addr) ∧ GF w1 w1.heap.size (w1.heap.size + 2) W w1.heap.size ⟨⟨v.f.H, v.f.W, List.replicate v.n 0, []⟩, A, none, v.n, v.n, 0, 0⟩) ∧ w1.heap.size + 2 ≤ W.heap.size) ⟨⟨_, rfl, hgA.out⟩, by show _ ≤ ((w1.alloc _).alloc _).heap.size; simp⟩ ?_
    rintro w3 ⟨⟨A, hA, hg3⟩, hz3⟩
    have HA := Lib.hid hA
    have HG3 := Lib.hid hg3
    clear hA hg3 hgA
    have hHn0 : 0 < Hn := by omega
    go_loopw [27] (fun i wr => ∃ y : Nat, (y : Int) ≤ v.f.H ∧ i = .int .i64 y ∧ GF w1 w1.heap.size (w1.heap.size + 2) wr w1.heap.size ⟨⟨v.f.H, v.f.W, visL (quaG v.f) Hn (Wn * Hn) y 0, []⟩, A, none, v.n, v.n, 0, 0⟩ ∧ w1.heap.size + 2 ≤ wr.heap.size) (fun i _ => (v.f.H - intOf i).toNat)
    case atStart => exact ⟨0, by omega, rfl, by rw [visL_zero, ← HNL.out]; exact HG3.out, hz3⟩
    case round =>
      clear hz3
      obtain ⟨y, hy, rfl, hgy, hzy⟩ := hrel
      have HGy := Lib.hid hgy
      have b3 := b0.below hgy.bel
      by_cases hlty : (y : Int) < v.f.H
      · have c0 := b3.at
        have co := HGy.out.box.at
        clear hgy
        go_wp2_with fail
        clear c0 co
        go_loopw [32] (fun i wr => ∃ x : Nat, (x : Int) ≤ v.f.W ∧ i = .int .i64 x ∧ GF w1 w1.heap.size (w1.heap.size + 2) wr w1.heap.size ⟨⟨v.f.H, v.f.W, visL (quaG v.f) Hn (Wn * Hn) y x, []⟩, A, none, v.n, v.n, 0, 0⟩ ∧ w1.heap.size + 2 ≤ wr.heap.size) (fun i _ => (v.f.W - intOf i).toNat)
        case atStart => exact ⟨0, by omega, rfl, HGy.out, hzy⟩
        case round =>
          clear b3 hzy
          obtain ⟨x, hx, rfl, hgx, hzx⟩ := hrel
          have HGx := Lib.hid hgx
          have b3 := b0.below hgx.bel
          by_cases hltx : (x : Int) < v.f.W
          · have hxW : x < Wn := by omega
            have hyH : y < Hn := by omega
            have hp0 : x * Hn + (Hn - 1 - y) < v.n := by
              rw [HNL.out]
              have := Nat.mul_le_mul_right Hn (show x + 1 ≤ Wn by omega)
              rw [Nat.add_mul, Nat.one_mul] at this
              omega
            have hke : (x : Int) * v.f.H + v.f.H - 1 - (y : Int) = ((x * Hn + (Hn - 1 - y) : Nat) : Int) := by
              rw [HH.out, Int.natCast_add, Int.natCast_mul]; omega
            have j0 : 0 ≤ (x : Int) * v.f.H := Int.mul_nonneg (by omega) (by omega)
            have j1 : (x : Int) * v.f.H + v.f.H ≤ 1000000 := by omega
            have X : ∀ w, (Instr.indexAt 22 (.slice A v.n v.n) (.int .i64 ((x : Int) * v.f.H + v.f.H - 1 - (y : Int)))).run Try.prog w = .ok (.pointer (some ⟨(w1.heap.size + 1), x * Hn + (Hn - 1 - y), none⟩)) w := fun w => by
              have := ix22 (c := v.n) HA.out hp0 w
              rw [← hke] at this
              rwa [show (⟨(w1.heap.size + 1), 0, none⟩ : Addr).add (x * Hn + (Hn - 1 - y)) = ⟨(w1.heap.size + 1), x * Hn + (Hn - 1 - y), none⟩ by unfold Addr.add; split <;> simp_all] at this
            have HSET := Lib.hid (visL_set (quaG v.f) Hn Wn y x hyH hxW)
            have HGV := Lib.hid (quaG_at2 (f := v.f) (x := x) HH.out hyH)
            have hdb := dir_bd ok.out (x : Int) (y : Int) (by omega) hltx (by omega) hlty
            obtain ⟨db0, db1⟩ := hdb
            have hpd : x * Hn + (Hn - 1 - y) < (visL (quaG v.f) Hn (Wn * Hn) y x).length := by rw [visL_length, ← HNL.out]; exact hp0
            obtain ⟨d9, hd9⟩ : ∃ d, (visL (quaG v.f) Hn (Wn * Hn) y x)[x * Hn + (Hn - 1 - y)]? = some d := ⟨_, List.getElem?_eq_getElem hpd⟩
            obtain ⟨g', hg', hgl, hgw, d0, z0⟩ := hgx.own.atD (k := x * Hn + (Hn - 1 - y)) hd9
            obtain rfl : g' = (w1.heap.size + 1) := by
              have : some (⟨g', 0, none⟩ : Addr) = some ⟨(w1.heap.size + 1), 0, none⟩ := hg'.symm.trans HA.out
              injection this with this
              injection this
            have HV3 := Lib.hid (HV1.out.below hgx.bel)
            have Q0 := Lib.hid (fun w5 (hb : Below wr.heap.size wr w5) => at_any v (x : Int) (y : Int) w5 (HV3.out.below hb) ok.out.size (by omega) hltx (by omega) hlty)
            have co := hgx.box.rg
            have c3 := b3.rg
            have hgl' := Lib.hid hgl
            have hgw' := Lib.hid hgw
            have D0 := Lib.hid d0
            have Z0 := Lib.hid z0
            clear hgx hg' hp0 hke d0 z0 hgl hgw hpd hd9
            go_wp2_with fail
            generalize v.f.dir (x : Int) (y : Int) = dd at db0 db1 HGV Q0
            refine wp_region_qt 19 mixed (by kernel_rfl) ?_
            simp only [List.take_succ_cons, List.take_zero, List.drop_succ_cons, List.drop_zero]
            repeat (go_big_quiet_step (first | exact rg_call Q0.out _ _ | exact rg_call (fun w _ => mod_b _ w) _ _))
            refine wpQuiet_nil ?_
            intro w4 hb4
            have d4 := (hb4.cell (p := ⟨(w1.heap.size + 1), x * Hn + (Hn - 1 - y), none⟩) hgw'.out).trans D0.out
            have z4 := (hb4.frozen (p := ⟨(w1.heap.size + 1), x * Hn + (Hn - 1 - y), none⟩) hgw'.out).trans (Z0.out (x * Hn + (Hn - 1 - y)))
            have HO5 := Lib.hid ((HGx.out.on hb4).storeA HA.out hgl'.out (x * Hn + (Hn - 1 - y)) (quaG v.f (x * Hn + (Hn - 1 - y))))
            have hz4 : w1.heap.size + 2 ≤ w4.heap.size := Nat.le_trans hzx hb4.size
            rw [← HGV.out]
            clear hb4 co c3 b3 X D0 Z0
            go_wp2_with fail
            go_roundw
            case rel => exact ⟨x + 1, by omega, by go_num, by rw [← HSET.out]; exact HO5.out, by rw [size_set]; exact hz4⟩
            case measure => simp [intOf]; omega
          · have hxe : x = Wn := by omega
            have HG4 := Lib.hid (show GF w1 w1.heap.size (w1.heap.size + 2) wr w1.heap.size ⟨⟨v.f.H, v.f.W, visL (quaG v.f) Hn (Wn * Hn) (y + 1) 0, []⟩, A, none, v.n, v.n, 0, 0⟩ by have h := hgx; rw [hxe, visL_row _ _ _ _ hHn0] at h; exact h)
            have c3 := b3.at
            clear hgx hxe
            go_wp2_with fail
            go_roundw
            case rel => exact ⟨y + 1, by omega, by go_num, HG4.out, hzx⟩
            case measure => simp [intOf]; omega
      · have HD := Lib.hid (show GF w1 w1.heap.size (w1.heap.size + 2) wr w1.heap.size ⟨⟨v.f.H, v.f.W, (quaF v.f).ds, []⟩, A, none, v.n, v.n, 0, 0⟩ by
          have h1 : (quaF v.f).ds = visL (quaG v.f) Hn (Wn * Hn) y 0 := by
            rw [visL_all _ _ _ _ hHn0 (by omega)]
            unfold quaF
            rw [HW.out, HH.out]
            rfl
          rw [h1]; exact hgy)
        have c3 := b3.at
        clear hgy HGy HG3
        go_wp2_with fail
        clear c3
        clear hy hlty b3
        have hAb := Lib.hid (show ∀ p, A = some p → p.block < w1.heap.size + 2 from fun p hp => by rw [HA.out] at hp; injection hp with hp; subst hp; show (w1.heap.size + 1) < _; omega)
        go_loopw [59] (fun i wr => ∃ k : Nat, k ≤ v.m ∧ i = .int .i64 k ∧ (∃ Bp d, GF w1 w1.heap.size (w1.heap.size + 2) wr w1.heap.size ⟨⟨v.f.H, v.f.W, (quaF v.f).ds, (v.f.ps.take k).map (quaE v.f.H)⟩, A, Bp, v.n, v.n, k, d⟩) ∧ w1.heap.size + 2 ≤ wr.heap.size) (fun i _ => v.m - (intOf i).toNat)
        case atStart => exact ⟨0, by omega, rfl, ⟨none, 0, HD.out⟩, hzy⟩
        case round =>
          clear hzy
          obtain ⟨k, hk, rfl, ⟨Bp, dp, hgk⟩, hzk⟩ := hrel
          have HGk := Lib.hid hgk
          have b3 := b0.below hgk.bel
          by_cases hlt : k < v.m
          · obtain ⟨ad, e, e1, hbk, he, d0, d1, d2⟩ := psat (HV1.out.below hgk.bel).ps (k := k) (by rw [← HM1.out]; exact hlt)
            have X := fun w => ix23 (c := v.d) e1 hlt w
            have HEB := Lib.hid (isE_bd2 (ok.out.edge e (List.mem_of_getElem? he)))
            have HPS := Lib.hid (take_map_succ (h := quaE v.f.H) he)
            obtain ⟨x, y', up⟩ := e
            obtain ⟨x0, x1, up01⟩ := HEB.out
            dsimp only at x0 x1 up01
            have co := hgk.box.at
            have coA := fun o => (hgk.box.alloc o).at
            have c3 := b3.at
            have c3A := fun o => (b3.alloc o).at
            clear hgk he e1 b3
            rcases up01 with rfl | rfl
            · have HQE := Lib.hid (show quaE v.f.H (x, y', 0) = (v.f.H - 1 - y', x, 1) from Prod.ext (by show v.f.H - 1 - 0 - y' = v.f.H - 1 - y'; omega) rfl)
              go_wp2_with (at_builtin; refine wpList_pushGE rfl _ _ rfl (w1.heap.size + 2) _ _ k ((v.f.ps.take k).map (quaE v.f.H)) (v.f.H - 1 - y', x, 1) _ rfl (HGk.out.on (belowAA _ _ _)).ps (by simp only [World.size_alloc]; omega) rfl (Box.new2 _ _ _ _ _) (by omega) ?_; intro B' d' w6 hr1 hr2; have g5 := Lib.hid (HGk.out.on (belowAA wr (Obj.cells #[.int .i64 x, .int .i64 y', .int .i64 0] 33) (Obj.cells #[.int .i64 (v.f.H - 1 - y'), .int .i64 x, .int .i64 1] 33))); have hbl := Lib.hid (g5.out.belB (by simp only [World.size_alloc]; omega) hr2); have bx6 := g5.out.box.under hbl.out (by omega); have c6 := bx6.at; have f6 := (fun i => by rw [hbl.out.frozen (p := ⟨w1.heap.size, i, none⟩) (by show w1.heap.size < _; omega)]; exact g5.out.fz i : ∀ i, w6.frozen? ⟨w1.heap.size, i, none⟩ = false); have HG6 := Lib.hid (g5.out.putB hAb.out (by omega) (by simp only [World.size_alloc]; omega) hr1 hr2); have hz6 : w1.heap.size + 2 ≤ w6.heap.size := (by have := hbl.out.size; simp only [World.size_alloc] at this; omega); clear hr1 hr2 co coA c3 c3A d0 d1 d2)
              have HPS2 := Lib.hid (show (v.f.ps.take k).map (quaE v.f.H) ++ [(v.f.H - 1 - y', x, 1)] = (v.f.ps.take (k + 1)).map (quaE v.f.H) by rw [← HQE.out]; exact HPS.out)
              clear bx6 c6 f6 X HQE
              go_roundw
              case rel => exact ⟨k + 1, by omega, by go_num, ⟨B', d', by rw [← HPS2.out]; exact HG6.out⟩, by rw [size_set]; exact hz6⟩
              case measure => simp [intOf]; omega
            · have HQE := Lib.hid (show quaE v.f.H (x, y', 1) = (v.f.H - 2 - y', x, 0) from Prod.ext (by show v.f.H - 1 - 1 - y' = v.f.H - 2 - y'; omega) rfl)
              go_wp2_with (at_builtin; refine wpList_pushGE rfl _ _ rfl (w1.heap.size + 2) _ _ k ((v.f.ps.take k).map (quaE v.f.H)) (v.f.H - 2 - y', x, 0) _ rfl (HGk.out.on (belowAA _ _ _)).ps (by simp only [World.size_alloc]; omega) rfl (Box.new2 _ _ _ _ _) (by omega) ?_; intro B' d' w6 hr1 hr2; have g5 := Lib.hid (HGk.out.on (belowAA wr (Obj.cells #[.int .i64 x, .int .i64 y', .int .i64 1] 33) (Obj.cells #[.int .i64 (v.f.H - 2 - y'), .int .i64 x, .int .i64 0] 33))); have hbl := Lib.hid (g5.out.belB (by simp only [World.size_alloc]; omega) hr2); have bx6 := g5.out.box.under hbl.out (by omega); have c6 := bx6.at; have f6 := (fun i => by rw [hbl.out.frozen (p := ⟨w1.heap.size, i, none⟩) (by show w1.heap.size < _; omega)]; exact g5.out.fz i : ∀ i, w6.frozen? ⟨w1.heap.size, i, none⟩ = false); have HG6 := Lib.hid (g5.out.putB hAb.out (by omega) (by simp only [World.size_alloc]; omega) hr1 hr2); have hz6 : w1.heap.size + 2 ≤ w6.heap.size := (by have := hbl.out.size; simp only [World.size_alloc] at this; omega); clear hr1 hr2 co coA c3 c3A d0 d1 d2)
              have HPS2 := Lib.hid (show (v.f.ps.take k).map (quaE v.f.H) ++ [(v.f.H - 2 - y', x, 0)] = (v.f.ps.take (k + 1)).map (quaE v.f.H) by rw [← HQE.out]; exact HPS.out)
              clear bx6 c6 f6 X HQE
              go_roundw
              case rel => exact ⟨k + 1, by omega, by go_num, ⟨B', d', by rw [← HPS2.out]; exact HG6.out⟩, by rw [size_set]; exact hz6⟩
              case measure => simp [intOf]; omega
          · have hres : Calls Try.prog 84 #[(⟨⟨v.f.H, v.f.W, (quaF v.f).ds, (v.f.ps.take k).map (quaE v.f.H)⟩, A, Bp, v.n, v.n, k, dp⟩ : FV).val] wr (RetOwn (fin (quaF v.f)) (valid (quaF v.f)) w1) := by
              have h := result_any ⟨⟨v.f.H, v.f.W, (quaF v.f).ds, (v.f.ps.take k).map (quaE v.f.H)⟩, A, Bp, v.n, v.n, k, dp⟩ w1 wr hgk.bel HGk.out.own (by show k ≤ _; omega)
              have e : srt (⟨v.f.H, v.f.W, (quaF v.f).ds, (v.f.ps.take k).map (quaE v.f.H)⟩ : Fld) = quaF v.f := by
                rw [List.take_of_length_le (by rw [← HM1.out]; omega)]; rfl
              dsimp only at h
              rw [e] at h
              exact h
            have HRES := Lib.hid hres
            have co := hgk.box.at
            have c3 := b3.at
            clear hgk hres
            go_wp2_with fail
            with_reducible refine HRES.out.mono ?_
            rintro r w5 ⟨u', hu', rfl, ho5, hb5⟩
            have HU' := Lib.hid hu'
            have HO5 := Lib.hid ho5
            have HR5 := Lib.hid (HRR.out.on hb5)
            have cr := HR5.out.box.at
            have fr := HR5.out.fz
            clear hu' ho5 hb5 co c3 b3
            dsimp only [FV.val]
            go_wp2_with fail
            have cF := (HR5.out.box.four (.int .i64 u'.f.W) (.int .i64 u'.f.H) (.slice u'.A u'.n u'.c) (.slice u'.B u'.m u'.d)).at
            have HE := res_own HO5.out hlt1 HR5.out.bel HR5.out.le hw1.out.size (.int .i64 u'.f.W) (.int .i64 u'.f.H) (.slice u'.A u'.n u'.c) (.slice u'.B u'.m u'.d)
            exact bodyPost_ret (v := .tuple #[.agg #[.int .i64 u'.f.W, .int .i64 u'.f.H, .slice u'.A u'.n u'.c, .slice u'.B u'.m u'.d], .int .i64 (valid (quaF v.f))]) (by simp [results, Try.results51, go_sem, cF]) rfl
              ⟨u', by rw [HU'.out, HS.out], by rw [HS.out], HE.1, HE.2⟩
end Go.Proofs.Ytahmdnboeenfkaa

namespace Go.Proofs.Ytahmdnboeenfkaa
open Go.RowKit Go.Sort

theorem edgs_take (l : List Edg) (k : Nat) : (edgs l).take (k * 3) = edgs (l.take k) := by
  induction l generalizing k with
  | nil => simp [edgs]
  | cons a l ih =>
    cases k with
    | zero => simp [edgs]
    | succ k =>
      show (ecells a ++ edgs l).take _ = ecells a ++ edgs (l.take k)
      rw [← ih k, List.take_append, show (ecells a).length = 3 from rfl, show (k + 1) * 3 - 3 = k * 3 by omega, List.take_of_length_le (show (ecells a).length ≤ (k + 1) * 3 by show 3 ≤ _; omega)]
theorem edgs_drop (l : List Edg) (k : Nat) : (edgs l).drop (k * 3) = edgs (l.drop k) := by
  induction l generalizing k with
  | nil => simp [edgs]
  | cons a l ih =>
    cases k with
    | zero => simp [edgs]
    | succ k =>
      show (ecells a ++ edgs l).drop _ = edgs (l.drop k)
      rw [← ih k, List.drop_append, show (ecells a).length = 3 from rfl, show (k + 1) * 3 - 3 = k * 3 by omega, List.drop_eq_nil_of_le (show (ecells a).length ≤ (k + 1) * 3 by show 3 ≤ _; omega), List.nil_append]
section
variable {w w' : World} {bl g i n cap : Nat} {es : List Edg}
/-- The head of a row is a row. -/
theorem row_take (h : w.ownsRow bl 33 3 (.slice (some ⟨g, 0, none⟩) n cap) n (edgs es)) (hi : i ≤ n) : w.ownsRow bl 33 3 (.slice (some ⟨g, 0, none⟩) i cap) i (edgs (es.take i)) := by
  have hl := h.1
  rw [edgs_length] at hl
  refine ⟨by rw [edgs_length, List.length_take]; omega, ?_⟩
  rcases h.2 with ⟨hv, h0⟩ | ⟨g', cap', cur, hv, hb, hh, h1, h2, h3, h4⟩
  · cases hv
  · injection hv with e1 e2 e3
    injection e1 with e1
    injection e1 with e1
    subst e1 e3
    refine .inr ⟨g, cap, cur, rfl, hb, hh, by omega, h2, h3, ?_⟩
    rw [← edgs_take, ← h4, List.take_take, Nat.min_eq_left (Nat.mul_le_mul_right 3 hi)]
theorem row_lt (h : w.ownsRow bl 33 3 (.slice (some ⟨g, 0, none⟩) n cap) n (edgs es)) : bl ≤ g ∧ g < w.heap.size := h.lt g rfl
end
theorem row_spare {w : World} {bl g n cap : Nat} {xs : List Value} (h : w.ownsRow bl 33 3 (.slice (some ⟨g, 0, none⟩) n cap) n xs) {j : Nat} (hj : j < cap * 3) : (w.cell? ⟨g, j, none⟩).isSome = true := by
  rcases h.2 with ⟨hv, h0⟩ | ⟨g', cap', cur, hv, hb, hh, h1, h2, h3, h4⟩
  · cases hv
  · injection hv with e1 e2 e3
    injection e1 with e1
    injection e1 with e1
    subst e1 e3
    rw [cell_of_row w g j cur 33 (0, 0) hh]
    simp [h3, hj]
/-- Cells behind a row are written: the row is the same. -/
theorem row_behind {w : World} {bl g n cap : Nat} {xs : List Value} (h : w.ownsRow bl 33 3 (.slice (some ⟨g, 0, none⟩) n cap) n xs) {j : Nat} (hj : n * 3 ≤ j) (u : Value) : (w.setCell ⟨g, j, none⟩ u).ownsRow bl 33 3 (.slice (some ⟨g, 0, none⟩) n cap) n xs ∧ w.grownBy (w.setCell ⟨g, j, none⟩ u) (some g) := by
  have := h.stored j u
  rwa [List.set_eq_of_length_le (by rw [h.1]; exact hj)] at this
theorem step_fits {ops : Array Oper} {o : Oper} {a : Act} {K : Act → World → Prop} {Q : Exit → Act → World → Prop} {E : Prop} (hgd : o.guard = none) (s x : Operand)
    (ho : o.op = .call { callee := .builtin .append, args := #[s, x], argTypes := #[23, 23] })
    (bl : Nat) (w : World) (g i cap m c : Nat) (es news : List Edg) (ad : Addr) (hs : a.eval s = .slice (some ⟨g, 0, none⟩) i cap) (hown : w.ownsRow bl 33 3 (.slice (some ⟨g, 0, none⟩) i cap) i (edgs es))
    (hx : a.eval x = .slice (some ad) m c) (hl : news.length = m) (hnews : ∀ j u, (edgs news)[j]? = some u → w.cell? (ad.add j) = some u) (hroom : i + m ≤ cap)
    (h : ∀ w', w'.ownsRow bl 33 3 (.slice (some ⟨g, 0, none⟩) (i + m) cap) (i + m) (edgs (es ++ news)) → w.grownBy w' (some g) → K (a.put o.dst (.slice (some ⟨g, 0, none⟩) (i + m) cap)) w') :
    if Region.wanted o (yielded ops a.tmps) = true then Oper.wp Try.prog o a w K Q else E := by
  have hw : Region.wanted o (yielded ops a.tmps) = true := by simp [Region.wanted, hgd]
  rw [if_pos hw]
  obtain ⟨i0, hi, hz0, hz1, hz2⟩ := info_parts info33
  obtain ⟨w', hr, h1, h2⟩ := run_append_fits (P := Try.prog) w bl 23 o.type 33 i0 3 Try.underlying23 hi hz1 g i cap (edgs es) hown ad m c (edgs news) (by rw [edgs_length, hl]) hnews (edgs_one _) hroom
  rw [← edgs_append] at h1
  unfold Oper.wp execOp
  simp only [ho, resolve, invoke, builtin, Sem.run_bind, Sem.run_pure, Result.andThen_ok, List.map_toArray, List.map_cons, List.map_nil, hs, hx, hr]
  exact h w' h1 h2
theorem zero33 : ∀ w, (zeroValue 33).run Try.prog w = .ok (.agg #[.int .i64 0, .int .i64 0, .int .i64 0]) w := fun _ => by kernel_rfl
theorem run_clear3 (w : World) (ty : TypeId) (b o c : Nat)
    (hc : ∀ j, j < 3 → (w.cell? ⟨b, o + j, none⟩).isSome = true) (hf : ∀ j, j < 3 → w.frozen? ⟨b, o + j, none⟩ = false) :
    (Builtin.clear_ #[23] ty #[.slice (some ⟨b, o, none⟩) 1 c]).run Try.prog w = .ok (.tuple #[]) (w.setCells b o [.int .i64 0, .int .i64 0, .int .i64 0]) := by
  have hzc : (Builtin.zeroCells (Value.agg #[.int .i64 0, .int .i64 0, .int .i64 0]).cells 1).toList = [.int .i64 0, .int .i64 0, .int .i64 0] := by
    show ((Array.range 3).map _).toList = _
    rw [Array.toList_map, Array.toList_range]
    rfl
  have hst := run_storeCells_cells (P := Try.prog) b o [.int .i64 0, .int .i64 0, .int .i64 0] 0 w (by simpa using hc) (by simpa using hf) (by intro v hv'; simp at hv'; subst hv'; rfl)
  simp only [Nat.add_zero] at hst
  simp [Builtin.clear_, run_underlying Try.underlying23, hzc, hst]

theorem cleared {w : World} {bl g m cap : Nat} {xs : List Value} (h : w.ownsRow bl 33 3 (.slice (some ⟨g, 0, none⟩) m cap) m xs) (hm : m + 1 ≤ cap) :
    (∀ ty, (Builtin.clear_ #[23] ty #[.slice (some ⟨g, m * 3, none⟩) 1 (cap - m)]).run Try.prog w = .ok (.tuple #[]) (w.setCells g (m * 3) [.int .i64 0, .int .i64 0, .int .i64 0])) ∧
    (w.setCells g (m * 3) [.int .i64 0, .int .i64 0, .int .i64 0]).ownsRow bl 33 3 (.slice (some ⟨g, 0, none⟩) m cap) m xs ∧ w.grownBy (w.setCells g (m * 3) [.int .i64 0, .int .i64 0, .int .i64 0]) (some g) := by
  refine ⟨fun ty => run_clear3 w ty g (m * 3) _ (fun j hj => row_spare h (by omega)) (fun j hj => h.frozenAt _), ?_⟩
  obtain ⟨a1, a2⟩ := row_behind h (j := m * 3) (by omega) (.int .i64 0)
  obtain ⟨b1, b2⟩ := row_behind a1 (j := m * 3 + 1) (by omega) (.int .i64 0)
  obtain ⟨c1, c2⟩ := row_behind b1 (j := m * 3 + 1 + 1) (by omega) (.int .i64 0)
  exact ⟨c1, (a2.trans b2).trans c2⟩
set_option maxRecDepth 10000 in
theorem delete_any (bl g n cap i : Nat) (es : List Edg) (w : World) (h : w.ownsRow bl 33 3 (.slice (some ⟨g, 0, none⟩) n cap) n (edgs es)) (hn : n ≤ 1000000) (hi : i < n) :
    Calls Try.prog 88 #[.slice (some ⟨g, 0, none⟩) n cap, .int .i64 (i : Int), .int .i64 ((i : Int) + 1)] w fun r w' => r = .returned (.slice (some ⟨g, 0, none⟩) (n - 1) cap) ∧
      w'.ownsRow bl 33 3 (.slice (some ⟨g, 0, none⟩) (n - 1) cap) (n - 1) (edgs (es.take i ++ es.drop (i + 1))) ∧ w.grownBy w' (some g) := by
  have H := Lib.hid h
  obtain ⟨hcap, hcm⟩ := row_cap h
  unfold maxLen at hcm
  clear h
  obtain ⟨m, rfl⟩ : ∃ m, n = m + 1 := ⟨n - 1, by omega⟩
  rw [Nat.add_sub_cancel]
  have hsrc := Lib.hid (fun j u (hj : (edgs (es.drop (i + 1)))[j]? = some u) => show w.drew.cell? ((⟨g, (i + 1) * 3, none⟩ : Addr).add j) = some u from by
    rw [← edgs_drop, List.getElem?_drop] at hj
    have hjl := (List.getElem?_eq_some_iff.1 hj).1
    have hl := H.out.1
    rw [hl] at hjl
    rw [Addr.add_lit]
    exact (H.out.cellAt _ hjl).trans hj)
  have HT := Lib.hid (row_take H.out (show i ≤ m + 1 by omega)).drew
  have HL := Lib.hid (show es.length = m + 1 by have := H.out.1; rw [edgs_length] at this; omega)
  have k0 : (0 : Int) ≤ (i : Int) := by omega
  have k1 : (i : Int) ≤ (cap : Int) := by omega
  have k2 : (0 : Int) ≤ (i : Int) + 1 := by omega
  have k3 : (i : Int) + 1 ≤ (cap : Int) := by omega
  have k4 : (i : Int) + 1 ≤ (m : Int) + 1 := by omega
  have k5 : ((i : Int) + 1).toNat = i + 1 := by omega
  have k6 : (i : Int) ≤ (i : Int) + 1 := by omega
  have k7 : i ≤ cap := by omega
  have k8 : i + 1 ≤ cap := by omega
  have k9 : (m : Int) + 1 ≤ (cap : Int) := by omega
  have ka : (m : Int) ≤ (cap : Int) := by omega
  have kb : cap ≠ m := by omega
  by_cases hc : cap = i + 1
  · have hD := Lib.hid (show es.drop (i + 1) = [] from List.drop_eq_nil_of_le (by rw [HL.out]; omega))
    obtain rfl : i = m := by omega
    subst hc
    go_enter Try.func88, Try.ntmps88
    go_wp2_with fail
    go_region_law (refine step_fits rfl (.tmp 22) (.tmp 25) rfl bl w.drew g i (i + 1) 0 0 (es.take i) (es.drop (i + 1)) ⟨g, 0, none⟩ (by simp [Act.eval, Act.put]) HT.out (by simp [Act.eval, Act.put]) (by rw [hD.out]; rfl) (by rw [hD.out]; intro j u hj; simp [edgs] at hj) (by omega) ?_; intro w2 hr hg; have HR := Lib.hid hr; have HG := Lib.hid hg; clear hr hg)
    rw [Nat.add_zero] at HR
    obtain ⟨q1, q2, q3⟩ := cleared HR.out (Nat.le_refl _)
    rw [show i + 1 - i = 1 by omega] at q1
    have Q2 := Lib.hid q2
    have Q3 := Lib.hid (HG.out.trans q3)
    clear q2 q3 HR HG HT
    go_wp2_with fail
    go_ret
    exact ⟨rfl, Q2.out, ⟨Q3.out.os, Q3.out.tape, Q3.out.output, Q3.out.size, Q3.out.block⟩⟩
  · have hc2 : (cap : Int) ≠ (i : Int) + 1 := by omega
    go_enter Try.func88, Try.ntmps88
    go_wp2_with fail
    go_region_law (refine step_fits rfl (.tmp 22) (.tmp 25) rfl bl w.drew g i cap (m - i) (cap - (i + 1)) (es.take i) (es.drop (i + 1)) ⟨g, (i + 1) * 3, none⟩ (by simp [Act.eval, Act.put]) HT.out (by simp [Act.eval, Act.put]) (by rw [List.length_drop, HL.out]; omega) hsrc.out (by omega) ?_; intro w2 hr hg; have HR := Lib.hid hr; have HG := Lib.hid hg; clear hr hg)
    have he : i + (m - i) = m := by omega
    rw [he] at HR ⊢
    obtain ⟨q1, q2, q3⟩ := cleared HR.out (by omega)
    have Q2 := Lib.hid q2
    have Q3 := Lib.hid (HG.out.trans q3)
    clear q2 q3 HR HG HT
    go_wp2_with fail
    go_ret
    exact ⟨rfl, Q2.out, ⟨Q3.out.os, Q3.out.tape, Q3.out.output, Q3.out.size, Q3.out.block⟩⟩
end Go.Proofs.Ytahmdnboeenfkaa

namespace Go.Proofs.Ytahmdnboeenfkaa
open Go.RowKit Go.Sort

def partE (ps : List Edg) (e : Edg) : List Edg := if e ∈ ps then ps.filter (fun x => decide (x ≠ e)) else putE ps e
def partF (f : Fld) (e : Edg) : Fld := { f with ps := partE f.ps e }
/-- Part's two results. -/
def partR (f : Fld) (e : Edg) : Fld × Int := if valid f ≠ 0 then (zeroF, valid f) else if isE f.W f.H e = false then (zeroF, 5) else (fin (partF f e), valid (partF f e))
section
variable {f : Fld} {e : Edg}
theorem partR_bad (h : valid f ≠ 0) : partR f e = (zeroF, valid f) := by unfold partR; rw [if_pos h]
theorem partR_off (h : valid f = 0) (h1 : isE f.W f.H e = false) : partR f e = (zeroF, 5) := by unfold partR; rw [if_neg (by simpa using h), if_pos h1]
theorem partR_ok (h : valid f = 0) (h1 : isE f.W f.H e = true) : partR f e = (fin (partF f e), valid (partF f e)) := by unfold partR; rw [if_neg (by simpa using h), if_neg (by rw [h1]; decide)]
theorem partE_in {ps : List Edg} (h : e ∈ ps) : partE ps e = ps.filter (fun x => decide (x ≠ e)) := by unfold partE; rw [if_pos h]
theorem partE_out {ps : List Edg} (h : e ∉ ps) : partE ps e = putE ps e := by unfold partE; rw [if_neg h]
theorem nlt_of_lt {l : List Edg} (h : l.Pairwise ltE) : l.Pairwise fun x y => ¬ ltE y x := h.imp fun h => ltE_asymm h
theorem putE_sort {ps : List Edg} (h : ps.Pairwise ltE) : putE ps e = sortE (ps ++ [e]) := by
  refine sortE_unique ?_ (insE_sorted e ps (nlt_of_lt h))
  exact (insE_perm e ps).trans (List.perm_append_comm (l₁ := [e]) (l₂ := ps))
/-- The element at its place left out. -/
theorem filter_cut {ps : List Edg} {i : Nat} (h : ps.Pairwise ltE) (hi : ps[i]? = some e) : ps.filter (fun x => decide (x ≠ e)) = ps.take i ++ ps.drop (i + 1) := by
  obtain ⟨hl, he⟩ := List.getElem?_eq_some_iff.1 hi
  have hp := List.pairwise_iff_getElem.1 h
  conv => lhs; rw [← List.take_append_drop i ps, List.drop_eq_getElem_cons hl, he]
  rw [List.filter_append, List.filter_cons_of_neg (by simp)]
  congr 1
  · rw [List.filter_eq_self]
    intro x hx
    obtain ⟨k, hk, rfl⟩ := List.getElem_of_mem hx
    rw [List.length_take] at hk
    simp only [List.getElem_take, decide_eq_true_eq]
    intro e1
    have := hp k i (by omega) hl (by omega)
    rw [e1, he] at this
    exact ltE_irrefl _ this
  · rw [List.filter_eq_self]
    intro x hx
    obtain ⟨k, hk, rfl⟩ := List.getElem_of_mem hx
    rw [List.length_drop] at hk
    simp only [List.getElem_drop, decide_eq_true_eq]
    intro e1
    have := hp i (i + 1 + k) hl (by omega) (by omega)
    rw [e1, he] at this
    exact ltE_irrefl _ this
theorem part_sorted {ps : List Edg} (h : ps.Pairwise ltE) : (partE ps e).Pairwise ltE := by
  by_cases hm : e ∈ ps
  · rw [partE_in hm]; exact h.filter _
  · rw [partE_out hm]
    have h1 := insE_sorted e ps (nlt_of_lt h)
    have h2 : (insE e ps).Nodup := (insE_perm e ps).nodup_iff.2 (List.nodup_cons.2 ⟨hm, nodup_of_sorted h⟩)
    refine (h1.and h2).imp ?_
    intro a b ⟨h4, h5⟩
    rcases ltE_total a b with h | h | h
    · exact h
    · exact absurd h h5
    · exact absurd h h4
theorem sorted_perm {l m : List Edg} (hp : l.Perm m) (hl : l.Pairwise ltE) (hm : m.Pairwise ltE) : l = m := by
  rw [sortE_unique hp (nlt_of_lt hl), sortE_of_lt hm]
theorem part_twice {ps : List Edg} (h : ps.Pairwise ltE) : partE (partE ps e) e = ps := by
  refine sorted_perm ?_ (part_sorted (part_sorted h)) h
  by_cases hm : e ∈ ps
  · rw [partE_in hm]
    have h1 : e ∉ ps.filter (fun x => decide (x ≠ e)) := by simp
    rw [partE_out h1]
    obtain ⟨i, hi, rfl⟩ := List.getElem_of_mem hm
    refine (insE_perm _ _).trans ?_
    rw [filter_cut h (List.getElem?_eq_getElem hi)]
    refine List.Perm.trans (List.perm_middle (l₁ := ps.take i) (l₂ := ps.drop (i + 1)) (a := ps[i])).symm ?_
    rw [← List.drop_eq_getElem_cons hi, List.take_append_drop]
  · rw [partE_out hm]
    have h1 : e ∈ putE ps e := (insE_perm e ps).mem_iff.2 (by simp)
    rw [partE_in h1]
    refine ((insE_perm e ps).filter _).trans ?_
    rw [List.filter_cons_of_neg (by simp), List.filter_eq_self.2]
    intro x hx
    simp only [decide_eq_true_eq]
    intro e1
    subst e1
    exact hm hx
theorem partF_twice (h : valid f = 0) : partF (partF f e) e = f := by
  have := part_twice (e := e) (okf_of_valid h).sorted
  unfold partF
  rw [this]
/-- Making a parting twice undoes it. -/
theorem partR_twice (h : (partR f e).2 = 0) : partR (partR f e).1 e = (f, 0) := by
  by_cases hv : valid f = 0
  · cases he : isE f.W f.H e
    · rw [partR_off hv he] at h; cases h
    · rw [partR_ok hv he] at h ⊢
      have h1 : valid (partF f e) = 0 := h
      have h2 : fin (partF f e) = partF f e := by unfold fin; rw [if_pos h1]
      rw [h2]
      show partR (partF f e) e = (f, 0)
      rw [partR_ok h1 he, partF_twice hv, hv]
      unfold fin
      rw [if_pos hv]
  · rw [partR_bad hv] at h
    exact absurd h hv
theorem part_len (ps : List Edg) (e : Edg) : (partE ps e).length ≤ ps.length + 1 := by
  by_cases hm : e ∈ ps
  · rw [partE_in hm]; have := List.length_filter_le (fun x => decide (x ≠ e)) ps; omega
  · rw [partE_out hm]; have := (insE_perm e ps).length_eq; simp at this; show (insE e ps).length ≤ _; omega
end

set_option maxRecDepth 4000 in
theorem wpList_pushGE2 {ops : Array Oper} {rest : List Oper} {o : Oper} {a : Act} {Q : Exit → Act → World → Prop} (hgd : o.guard = none) (s x : Operand)
    (ho : o.op = .call { callee := .builtin .append, args := #[s, x], argTypes := #[23, 23] })
    (bl : Nat) (w : World) (A : Option Addr) (n c : Nat) (es : List Edg) (e : Edg) (b : Nat) (hs : a.eval s = .slice A n c) (hown : w.ownsRow bl 33 3 (.slice A n c) n (edgs es)) (hbl : bl ≤ w.heap.size) (hx : a.eval x = .slice (some ⟨b, 0, none⟩) 1 1)
    (hbox : Box w b #[.int .i64 e.1, .int .i64 e.2.1, .int .i64 e.2.2]) (hlen : n < 1000000000)
    (h : ∀ A' c' w', w'.ownsRow bl 33 3 (.slice A' (n + 1) c') (n + 1) (edgs (es ++ [e])) → w.grownBy w' (Value.slice A n c).ownBlock → (A' = A ∨ ∀ p, A' = some p → w.heap.size ≤ p.block) → wpList Try.prog ops Q rest (a.put o.dst (.slice A' (n + 1) c')) w') :
    wpList Try.prog ops Q (o :: rest) a w := by
  obtain ⟨i0, hi, hz0, hz1, hz2⟩ := info_parts info33
  have hcell : ∀ j u, (ecells e)[j]? = some u → w.cell? ((⟨b, 0, none⟩ : Addr).add j) = some u := by
    intro j u hj
    have e1 : (⟨b, 0, none⟩ : Addr).add j = ⟨b, j, none⟩ := by
      unfold Addr.add
      split
      · rename_i h0; rw [h0]
      · simp
    rw [e1, hbox.at]
    simpa [ecells] using hj
  have h63 : n + 1 ≤ maxLen := by unfold maxLen; omega
  by_cases hroom : n + 1 ≤ c
  · cases A with
    | none =>
      rcases hown.2 with ⟨hv, h0⟩ | ⟨g', cap', cur, hv, _⟩
      · injection hv with _ _ e3; omega
      · cases hv
    | some p =>
      obtain ⟨g, rfl⟩ : ∃ g, p = ⟨g, 0, none⟩ := by
        rcases hown.2 with ⟨hv, h0⟩ | ⟨g', cap', cur, hv, _⟩
        · cases hv
        · injection hv with e1 _ _; injection e1 with e1; exact ⟨g', e1⟩
      refine wpList_append_fits w hgd s x 23 ho bl 33 i0 3 Try.underlying23 hi hz1 g n c (edgs es) hs hown ⟨b, 0, none⟩ 1 1 (ecells e) hx rfl hcell (edgs_one [e]) hroom ?_
      intro w' h1 h2
      exact h _ _ w' (by rw [edgs_append]; exact h1) h2 (.inl rfl)
  · refine wpList_append_grows w hgd s x 23 ho 33 i0 _ 3 24 Try.underlying23 hi hz0 hz1 hz2 rfl (by decide) A n c (edgs es) hs ?_ hown.1 ?_ ⟨b, 0, none⟩ 1 1 (ecells e) hx rfl hcell (edgs_one [e]) (by omega) h63 (by omega) ?_
    · intro h0; subst h0
      rcases hown.2 with ⟨hv, _⟩ | ⟨g', cap', cur, hv, _⟩
      · injection hv with _ e2 e3; exact ⟨e2, e3⟩
      · cases hv
    · intro p hp j u hj
      subst hp
      have hr := Reads.of_own hown
      have hjl := (List.getElem?_eq_some_iff.1 hj).1
      have hn0 : 0 < n := by
        rcases Nat.eq_zero_or_pos n with h0 | h0
        · have := hown.1; rw [h0] at this; omega
        · exact h0
      obtain ⟨q, hq, _, hc⟩ := hr.look hn0
      injection hq with hq; subst hq
      exact hc j u hj
    · intro v' w' h1 h2
      obtain ⟨A', c', rfl⟩ := row_form h1
      have hnew : ∀ p, A' = some p → w.heap.size ≤ p.block := fun p hp => (h1.lt p.block (by rw [hp]; rfl)).1
      refine h A' c' w' (by rw [edgs_append]; exact row_mono h1 hbl) ⟨h2.os, h2.tape, h2.output, h2.size, fun k hk _ => h2.block k hk (by simp)⟩ (.inr hnew)
set_option maxRecDepth 4000 in
/-- One edge more behind a row: in place, or in a new block. -/
theorem run_pushE (bl : Nat) (w : World) (ty : TypeId) (A : Option Addr) (n c : Nat) (es : List Edg) (e : Edg) (b : Nat) (hown : w.ownsRow bl 33 3 (.slice A n c) n (edgs es)) (hbl : bl ≤ w.heap.size)
    (hbox : Box w b #[.int .i64 e.1, .int .i64 e.2.1, .int .i64 e.2.2]) (hlen : n < 1000000000) :
    ∃ A' c' w', (Builtin.append_ #[23, 23] ty #[.slice A n c, .slice (some ⟨b, 0, none⟩) 1 1]).run Try.prog w = .ok (.slice A' (n + 1) c') w' ∧ w'.ownsRow bl 33 3 (.slice A' (n + 1) c') (n + 1) (edgs (es ++ [e])) ∧
      w.grownBy w' (Value.slice A n c).ownBlock ∧ (A' = A ∨ ∀ p, A' = some p → w.heap.size ≤ p.block) := by
  obtain ⟨i0, hi, hz0, hz1, hz2⟩ := info_parts info33
  have hcell : ∀ j u, (ecells e)[j]? = some u → w.cell? ((⟨b, 0, none⟩ : Addr).add j) = some u := by
    intro j u hj
    have e1 : (⟨b, 0, none⟩ : Addr).add j = ⟨b, j, none⟩ := by
      unfold Addr.add
      split
      · rename_i h0; rw [h0]
      · simp
    rw [e1, hbox.at]
    simpa [ecells] using hj
  have h63 : n + 1 ≤ maxLen := by unfold maxLen; omega
  rw [edgs_append]
  by_cases hroom : n + 1 ≤ c
  · cases A with
    | none =>
      rcases hown.2 with ⟨hv, h0⟩ | ⟨g', cap', cur, hv, _⟩
      · injection hv with _ _ e3; omega
      · cases hv
    | some p =>
      obtain ⟨g, rfl⟩ : ∃ g, p = ⟨g, 0, none⟩ := by
        rcases hown.2 with ⟨hv, h0⟩ | ⟨g', cap', cur, hv, _⟩
        · cases hv
        · injection hv with e1 _ _; injection e1 with e1; exact ⟨g', e1⟩
      obtain ⟨w', hr, h1, h2⟩ := run_append_fits (P := Try.prog) w bl 23 ty 33 i0 3 Try.underlying23 hi hz1 g n c (edgs es) hown ⟨b, 0, none⟩ 1 1 (ecells e) rfl hcell (edgs_one [e]) hroom
      exact ⟨_, _, w', hr, h1, h2, .inl rfl⟩
  · cases A with
    | none =>
      rcases hown.2 with ⟨hv, h0⟩ | ⟨g', cap', cur, hv, _⟩
      · injection hv with _ e2 e3
        subst e2 e3
        obtain ⟨v', w', hrun, r1, r2, _⟩ := run_append_own (P := Try.prog) w w.heap.size 23 ty 33 i0 _ 3 24 Try.underlying23 hi hz0 hz1 hz2 rfl (by decide) (.slice none 0 0) 0 [] (World.ownsRow_nil w _ 33 3) ⟨b, 0, none⟩ 1 1 (ecells e) rfl hcell (edgs_one [e]) h63 (by decide) (Nat.le_refl _)
        obtain ⟨A', c', rfl⟩ := row_form r1
        have r3 : w'.ownsRow bl 33 3 (.slice A' (0 + 1) c') (0 + 1) (edgs es ++ edgs [e]) := by
          have := row_mono r1 hbl
          rw [show edgs es = [] from List.eq_nil_of_length_eq_zero (by simpa using hown.1), show edgs [e] = ecells e by simp [edgs]]
          exact this
        refine ⟨A', c', w', hrun, r3, ⟨r2.os, r2.tape, r2.output, r2.size, r2.block⟩, .inr fun p hp => (r1.lt p.block (by rw [hp]; rfl)).1⟩
      · cases hv
    | some p =>
      have holds : ∀ j u, (edgs es)[j]? = some u → w.cell? (p.add j) = some u := by
        intro j u hj
        have hr := Reads.of_own hown
        have hjl := (List.getElem?_eq_some_iff.1 hj).1
        have hn0 : 0 < n := by
          rcases Nat.eq_zero_or_pos n with h0 | h0
          · have := hown.1; rw [h0] at this; omega
          · exact h0
        obtain ⟨q, hq, _, hc⟩ := hr.look hn0
        injection hq with hq; subst hq
        exact hc j u hj
      obtain ⟨v', w', hrun, r1, r2⟩ := run_append_arg_grows (P := Try.prog) w 23 ty 33 i0 _ 3 24 Try.underlying23 hi hz0 hz1 hz2 rfl (by decide) p n c (edgs es) hown.1 holds ⟨b, 0, none⟩ 1 1 (ecells e) rfl hcell (by omega) h63 (by omega)
      obtain ⟨A', c', rfl⟩ := row_form r1
      exact ⟨A', c', w', hrun, row_mono r1 hbl, ⟨r2.os, r2.tape, r2.output, r2.size, fun k hk _ => r2.block k hk (by simp)⟩, .inr fun p hp => (r1.lt p.block (by rw [hp]; rfl)).1⟩
theorem step_pushGE2 {ops : Array Oper} {o : Oper} {a : Act} {K : Act → World → Prop} {Q : Exit → Act → World → Prop} {E : Prop} (hgd : o.guard = none) (s x : Operand)
    (ho : o.op = .call { callee := .builtin .append, args := #[s, x], argTypes := #[23, 23] })
    (bl : Nat) (w : World) (A : Option Addr) (n c : Nat) (es : List Edg) (e : Edg) (b : Nat) (hs : a.eval s = .slice A n c) (hown : w.ownsRow bl 33 3 (.slice A n c) n (edgs es)) (hbl : bl ≤ w.heap.size) (hx : a.eval x = .slice (some ⟨b, 0, none⟩) 1 1)
    (hbox : Box w b #[.int .i64 e.1, .int .i64 e.2.1, .int .i64 e.2.2]) (hlen : n < 1000000000)
    (h : ∀ A' c' w', w'.ownsRow bl 33 3 (.slice A' (n + 1) c') (n + 1) (edgs (es ++ [e])) → w.grownBy w' (Value.slice A n c).ownBlock → (A' = A ∨ ∀ p, A' = some p → w.heap.size ≤ p.block) → K (a.put o.dst (.slice A' (n + 1) c')) w') :
    if Region.wanted o (yielded ops a.tmps) = true then Oper.wp Try.prog o a w K Q else E := by
  have hw : Region.wanted o (yielded ops a.tmps) = true := by simp [Region.wanted, hgd]
  rw [if_pos hw]
  obtain ⟨A', c', w', hr, h1, h2, h3⟩ := run_pushE bl w o.type A n c es e b hown hbl hbox hlen
  unfold Oper.wp execOp
  simp only [ho, resolve, invoke, builtin, Sem.run_bind, Sem.run_pure, Result.andThen_ok, List.map_toArray, List.map_cons, List.map_nil, hs, hx, hr]
  exact h A' c' w' h1 h2 h3
section
variable {w1 w w' : World} {a b B : Nat} {v : FV}
/-- The partings of a field that is being made: another row, in place or anew. -/
theorem GF.putR (h : GF w1 a b w B v) {B' : Option Addr} {m' d' : Nat} {ps' : List Edg}
    (hr : w'.ownsRow b 33 3 (.slice B' m' d') m' (edgs ps')) (hg : w.grownBy w' (Value.slice v.B v.m v.d).ownBlock) (hnew : B' = v.B ∨ ∀ p, B' = some p → w.heap.size ≤ p.block) :
    GF w1 a b (w'.setCell ⟨B, 3, none⟩ (.slice B' m' d')) B ⟨{ v.f with ps := ps' }, v.A, B', v.n, v.c, m', d'⟩ := by
  have hBw := h.box.1
  have hrow : ∀ k, (Value.slice v.B v.m v.d).ownBlock = some k → b ≤ k := fun k hk => (h.ps.lt k hk).1
  have hbox : Box w' B #[.int .i64 v.f.W, .int .i64 v.f.H, .slice v.A v.n v.c, .slice v.B v.m v.d] := h.box.grown hg fun k hk => by obtain ⟨p, hp, rfl⟩ := own_blk hk; exact h.nB p hp
  have hfz := fz_grown hBw h.fz hg fun k hk => by obtain ⟨p, hp, rfl⟩ := own_blk hk; exact h.nB p hp
  have hB2 : ∀ p, B' = some p → p.block ≠ B := fun p hp => by
    rcases hnew with h0 | h0
    · exact h.nB p (h0 ▸ hp)
    · have := h0 p hp; omega
  have hds : w'.ownsRow a 3 1 (.slice v.A v.n v.c) v.n (ints v.f.ds) := by
    refine h.ds.kept hg ?_
    cases hA : v.A with
    | none => exact .inl rfl
    | some p =>
      refine .inr ?_
      cases hB : v.B with
      | none => simp [Value.ownBlock]
      | some q => simp [Value.ownBlock]; exact h.ne p q hA hB
  refine ⟨?_, fun j => ?_, ?_, ?_, ?_, h.nA, hB2, ?_, h.hB, h.ha, h.hb⟩
  · have := hbox.set (i := 3) (by simp) (.slice B' m' d'); simpa using this
  · rw [World.frozen?_setCell]; exact hfz j
  · exact row_far hds (q := ⟨B, 3, none⟩) (fun k hk => by obtain ⟨p, hp, rfl⟩ := own_blk hk; exact h.nA p hp) _
  · exact row_far hr (q := ⟨B, 3, none⟩) (fun k hk => by obtain ⟨p, hp, rfl⟩ := own_blk hk; exact hB2 p hp) _
  · intro p q hp hq
    rcases hnew with h0 | h0
    · exact h.ne p q hp (h0 ▸ hq)
    · have := h0 q hq
      have := (h.ds.lt p.block (by rw [show v.A = some p from hp]; rfl)).2
      omega
  · exact (h.bel.grown hg h.bel.size fun k hk => Nat.le_trans h.hb (hrow k hk)).setCell (p := ⟨B, 3, none⟩) h.hB _
/-- A field that a call has given is laid into a box of its own. -/
theorem GF.boxed (hb : Below w1.heap.size w1 w) (ho : FOwn w1.heap.size w v) (t : TypeId) :
    GF w1 w1.heap.size w1.heap.size (w.alloc (.cells #[.int .i64 v.f.W, .int .i64 v.f.H, .slice v.A v.n v.c, .slice v.B v.m v.d] t)) w.heap.size v := by
  have h2 := ho.on (belowA w (.cells #[.int .i64 v.f.W, .int .i64 v.f.H, .slice v.A v.n v.c, .slice v.B v.m v.d] t))
  exact ⟨Box.new _ _ _, fz_new _ _ _, h2.ds, h2.ps, h2.ne, fun p hp => by have := (ho.blkA hp).2; omega, fun p hp => by have := (ho.blkB hp).2; omega, below_trans' hb (belowA _ _), hb.size, Nat.le_refl _, Nat.le_refl _⟩
end
theorem ResB.new3 (w : World) (cs ds : Array Value) (t u : TypeId) : ResB w (((w.alloc (.cells cs t)).alloc (.cells ds u)).alloc (.cells #[.int .i64 0, .int .i64 0, .slice none 0 0, .slice none 0 0] 25)) (w.heap.size + 2) := by
  have h := ResB.new (w.alloc (.cells cs t)) ds u
  rw [World.size_alloc] at h
  exact ⟨h.box, h.fz, below_trans' (belowA w (.cells cs t)) h.bel, by omega⟩
end Go.Proofs.Ytahmdnboeenfkaa

namespace Go.Proofs.Ytahmdnboeenfkaa
open Go.RowKit Go.Sort

theorem belowA3 (w : World) (o u t : Obj) : Below w.heap.size w (((w.alloc o).alloc u).alloc t) := below_trans' (belowAA w o u) (belowA _ t)
set_option maxHeartbeats 4000000 in
set_option maxRecDepth 10000 in
theorem Part_any (v : FV) (e : Edg) (w : World) (hv : v.In w) :
    Calls Try.prog 46 #[v.val, eval_ e] w (RetOwn (partR v.f e).1 (partR v.f e).2 w) := by
  have HVv := Lib.hid hv
  clear hv
  go_enter Try.func46, Try.ntmps46
  dsimp only [FV.val, eval_]
  go_wp2_with fail
  with_reducible refine (validate_any v _ (HVv.out.below (belowA3 _ _ _ _))).mono ?_
  rintro r w1 ⟨rfl, hb1⟩
  have hR := (ResB.new3 w #[.int .i64 v.f.W, .int .i64 v.f.H, .slice v.A v.n v.c, .slice v.B v.m v.d] #[.int .i64 e.1, .int .i64 e.2.1, .int .i64 e.2.2] 25 33).on hb1
  have b0 := (((Box.new w #[.int .i64 v.f.W, .int .i64 v.f.H, .slice v.A v.n v.c, .slice v.B v.m v.d] 25).alloc (.cells #[.int .i64 e.1, .int .i64 e.2.1, .int .i64 e.2.2] 33)).alloc (.cells #[.int .i64 0, .int .i64 0, .slice none 0 0, .slice none 0 0] 25)).below hb1
  have be := ((Box.new2 w #[.int .i64 v.f.W, .int .i64 v.f.H, .slice v.A v.n v.c, .slice v.B v.m v.d] #[.int .i64 e.1, .int .i64 e.2.1, .int .i64 e.2.2] 25 33).alloc (.cells #[.int .i64 0, .int .i64 0, .slice none 0 0, .slice none 0 0] 25)).below hb1
  have hw1 := Lib.hid (below_trans' (belowA3 w _ _ _) hb1)
  clear hb1
  by_cases hz : valid v.f = 0
  case neg =>
    have hz' : (valid v.f != 0) = true := by simpa using hz
    have HF := Lib.hid (partR_bad (e := e) hz)
    have HR := Lib.hid hR
    have cr := hR.box.at
    have fr := hR.fz
    clear hz hR
    go_wp2_with fail
    have cF := (HR.out.box.four (.int .i64 0) (.int .i64 0) (.slice none 0 0) (.slice none 0 0)).at
    exact bodyPost_ret (v := .tuple #[.agg #[.int .i64 0, .int .i64 0, .slice none 0 0, .slice none 0 0], .int .i64 (valid v.f)]) (by simp [results, Try.results46, go_sem, cF]) rfl
      ⟨⟨zeroF, none, none, 0, 0, 0, 0⟩, by rw [HF.out], by rw [HF.out]; rfl, FOwn.zero _ _, res_bel HR.out.bel HR.out.le _ _ _ _⟩
  have ok := Lib.hid (okf_of_valid hz)
  have hz' : (valid v.f != 0) = false := by simpa using hz
  have HZ := Lib.hid hz
  have HV1 := Lib.hid (HVv.out.below hw1.out)
  have HRR := Lib.hid hR
  obtain ⟨n0, m0⟩ := okf_lens (okf_of_valid hz)
  have okw := ok.out.w2
  have okw1 := ok.out.w1
  have okh := ok.out.h2
  have okh1 := ok.out.h1
  clear hz hR
  have c0 := b0.at
  have ce := be.at
  go_wp2_with fail
  clear c0 ce
  with_reducible refine (hasEdge_any v e _ okw1 (by omega) okh1 (by omega)).mono ?_
  rintro r w2 ⟨rfl, hb2⟩
  replace b0 := b0.below hb2
  replace be := be.below hb2
  replace HV1 := Lib.hid (HV1.out.below hb2)
  replace HRR := Lib.hid (HRR.out.on hb2)
  replace hw1 := Lib.hid (below_trans' hw1.out hb2)
  clear hb2
  cases hp : isE v.f.W v.f.H e
  case false =>
    have HF := Lib.hid (partR_off HZ.out hp)
    have cr := HRR.out.box.at
    have fr := HRR.out.fz
    clear hp
    go_wp2_with fail
    have cF := (HRR.out.box.four (.int .i64 0) (.int .i64 0) (.slice none 0 0) (.slice none 0 0)).at
    exact bodyPost_ret (v := .tuple #[.agg #[.int .i64 0, .int .i64 0, .slice none 0 0, .slice none 0 0], .int .i64 5]) (by simp [results, Try.results46, go_sem, cF]) rfl
      ⟨⟨zeroF, none, none, 0, 0, 0, 0⟩, by rw [HF.out], by rw [HF.out]; rfl, FOwn.zero _ _, res_bel HRR.out.bel HRR.out.le _ _ _ _⟩
  have HS := Lib.hid (partR_ok HZ.out hp)
  have q1 : v.n ≤ 1000000 := by have := HVv.out.len; omega
  have q2 : v.m ≤ 1000000 := by have := HVv.out.lenp; omega
  have HMM := Lib.hid m0
  clear n0 m0 hp
  have c0 := b0.at
  go_wp2_with fail
  clear c0
  with_reducible refine (clone_any v _ HV1.out q1 q2).mono ?_
  rintro r w3 ⟨u, huf, rfl, ho0, hb2⟩
  obtain ⟨f', A, B, n, c, m, d⟩ := u
  dsimp only at huf
  subst huf
  have hg3 := GF.boxed hb2 ho0 25
  have hml : m ≤ 60 := by have h := ho0.In.lenp; have := HMM.out; dsimp only at h; omega
  have HSO := Lib.hid ok.out.sorted
  replace be := (be.below hb2).alloc (.cells #[.int .i64 v.f.W, .int .i64 v.f.H, .slice A n c, .slice B m d] 25)
  have HG3 := Lib.hid hg3
  have hs3 : w2.heap.size ≤ w3.heap.size := hb2.size
  have hlt1 := Lib.hid HRR.out.box.1
  clear ho0 hb2 b0 q1 q2
  dsimp only [FV.val]
  have ce := be.at
  go_wp2_with fail
  clear ce
  with_reducible refine (bs_any B m d v.f.ps e _ hg3.own.In.ps (by omega) HSO.out).mono ?_
  rintro r w4 ⟨rfl, hb4⟩
  replace be := be.below hb4
  have hg4 := hg3.on hb4
  have HG4 := Lib.hid hg4
  have hs4 : w2.heap.size + 1 ≤ w4.heap.size := by have := hb4.size; rw [World.size_alloc] at this; omega
  clear hb4 hg3 HG3
  by_cases hm : e ∈ v.f.ps
  · have hd : decide (e ∈ v.f.ps) = true := by simpa using hm
    rw [hd]
    obtain ⟨i, hi⟩ : ∃ i, i = lowE v.f.ps e := ⟨_, rfl⟩
    have hx := (mem_iff_low HSO.out).1 hm
    rw [← hi] at hx ⊢
    have HX := Lib.hid hx
    have HE := Lib.hid ((filter_cut HSO.out hx).symm.trans (partE_in hm).symm)
    have him : i < m := by have h1 := (List.getElem?_eq_some_iff.1 hx).1; have h := hg4.own.In.lenp; dsimp only at h; omega
    obtain ⟨g, hg, hgl, hgw, _⟩ := hg4.own.atP hx
    dsimp only at hg
    subst hg
    have c4 := hg4.box.at
    clear hd hi hx hm hg4
    go_wp2_with fail
    with_reducible refine (delete_any w2.heap.size g m d i v.f.ps _ HG4.out.ps (by omega) him).mono ?_
    rintro r w5 ⟨rfl, hr5, hgw5⟩
    have bx5 := HG4.out.box.grown hgw5 (fun k hk => by injection hk with hk; subst hk; exact HG4.out.nB _ rfl)
    have f5 := fz_grown HG4.out.box.1 HG4.out.fz hgw5 (fun k hk => by injection hk with hk; subst hk; exact HG4.out.nB _ rfl)
    have hg6 := HG4.out.putR hr5 hgw5 (.inl rfl)
    have hres : Calls Try.prog 84 #[(⟨{ v.f with ps := v.f.ps.take i ++ v.f.ps.drop (i + 1) }, A, some ⟨g, 0, none⟩, n, c, m - 1, d⟩ : FV).val] (w5.setCell ⟨w3.heap.size, 3, none⟩ (.slice (some ⟨g, 0, none⟩) (m - 1) d)) (RetOwn (fin (partF v.f e)) (valid (partF v.f e)) w2) := by
      have h := result_any ⟨{ v.f with ps := v.f.ps.take i ++ v.f.ps.drop (i + 1) }, A, some ⟨g, 0, none⟩, n, c, m - 1, d⟩ w2 _ hg6.bel hg6.own (by show m - 1 ≤ _; omega)
      have e1 : srt ({ v.f with ps := v.f.ps.take i ++ v.f.ps.drop (i + 1) } : Fld) = partF v.f e := by
        rw [HE.out]
        unfold srt partF
        rw [sortE_of_lt (part_sorted HSO.out)]
      dsimp only at h
      rw [e1] at h
      exact h
    have HRES := Lib.hid hres
    have c5 := bx5.at
    have c6 := hg6.box.at
    clear hr5 hgw5 c4 hg6 hres bx5
    go_wp2_with fail
    with_reducible refine HRES.out.mono ?_
    rintro r w7 ⟨u', hu', rfl, ho5, hb5⟩
    have HU' := Lib.hid hu'
    have HO6 := Lib.hid ho5
    have HR5 := Lib.hid (HRR.out.on hb5)
    have cr := HR5.out.box.at
    have fr := HR5.out.fz
    clear hu' ho5 hb5 c5 c6 f5
    dsimp only [FV.val]
    go_wp2_with fail
    have cF := (HR5.out.box.four (.int .i64 u'.f.W) (.int .i64 u'.f.H) (.slice u'.A u'.n u'.c) (.slice u'.B u'.m u'.d)).at
    have HE := res_own HO6.out hlt1.out HR5.out.bel HR5.out.le hw1.out.size (.int .i64 u'.f.W) (.int .i64 u'.f.H) (.slice u'.A u'.n u'.c) (.slice u'.B u'.m u'.d)
    exact bodyPost_ret (v := .tuple #[.agg #[.int .i64 u'.f.W, .int .i64 u'.f.H, .slice u'.A u'.n u'.c, .slice u'.B u'.m u'.d], .int .i64 (valid (partF v.f e))]) (by simp [results, Try.results46, go_sem, cF]) rfl
      ⟨u', by rw [HU'.out, HS.out], by rw [HS.out], HE.1, HE.2⟩
  · have hd : decide (e ∈ v.f.ps) = false := by simpa using hm
    rw [hd]
    have HE := Lib.hid ((putE_sort HSO.out).symm.trans (partE_out hm).symm)
    generalize lowE v.f.ps e = i
    have c4 := hg4.box.at
    have c4A := fun o => (hg4.box.alloc o).at
    have ce := be.at
    clear hd hm hg4
    go_wp2_with (at_builtin; refine wpList_pushGE2 rfl _ _ rfl w2.heap.size _ B m d v.f.ps e _ rfl (HG4.out.on (belowA _ _)).ps (by rw [World.size_alloc]; omega) rfl (Box.new _ _ _) (by omega) ?_; intro B' d' w6 hr6 hgw6 hnew; have g5 := HG4.out.on (belowA w4 (Obj.cells #[.int .i64 e.1, .int .i64 e.2.1, .int .i64 e.2.2] 33)); have bx6 := g5.box.grown hgw6 (fun k hk => by obtain ⟨p, hp, rfl⟩ := own_blk hk; exact g5.nB p hp); have f6 := fz_grown g5.box.1 g5.fz hgw6 (fun k hk => by obtain ⟨p, hp, rfl⟩ := own_blk hk; exact g5.nB p hp); have c6 := bx6.at; have HG6 := Lib.hid (g5.putR hr6 hgw6 hnew); have c7 := HG6.out.box.at; clear hr6 hgw6 hnew g5 bx6 c4 c4A ce)
    have hres : Calls Try.prog 84 #[(⟨{ v.f with ps := v.f.ps ++ [e] }, A, B', n, c, m + 1, d'⟩ : FV).val] (w6.setCell ⟨w3.heap.size, 3, none⟩ (.slice B' (m + 1) d')) (RetOwn (fin (partF v.f e)) (valid (partF v.f e)) w2) := by
      have h := result_any ⟨{ v.f with ps := v.f.ps ++ [e] }, A, B', n, c, m + 1, d'⟩ w2 _ HG6.out.bel HG6.out.own (by show m + 1 ≤ _; omega)
      have e1 : srt ({ v.f with ps := v.f.ps ++ [e] } : Fld) = partF v.f e := by
        unfold srt partF
        dsimp only
        rw [HE.out]
      dsimp only at h
      rw [e1] at h
      exact h
    have HRES := Lib.hid hres
    clear hres c6 c7 f6
    with_reducible refine HRES.out.mono ?_
    rintro r w7 ⟨u', hu', rfl, ho5, hb5⟩
    have HU' := Lib.hid hu'
    have HO6 := Lib.hid ho5
    have HR5 := Lib.hid (HRR.out.on hb5)
    have cr := HR5.out.box.at
    have fr := HR5.out.fz
    clear hu' ho5 hb5
    dsimp only [FV.val]
    go_wp2_with fail
    have cF := (HR5.out.box.four (.int .i64 u'.f.W) (.int .i64 u'.f.H) (.slice u'.A u'.n u'.c) (.slice u'.B u'.m u'.d)).at
    have HE := res_own HO6.out hlt1.out HR5.out.bel HR5.out.le hw1.out.size (.int .i64 u'.f.W) (.int .i64 u'.f.H) (.slice u'.A u'.n u'.c) (.slice u'.B u'.m u'.d)
    exact bodyPost_ret (v := .tuple #[.agg #[.int .i64 u'.f.W, .int .i64 u'.f.H, .slice u'.A u'.n u'.c, .slice u'.B u'.m u'.d], .int .i64 (valid (partF v.f e))]) (by simp [results, Try.results46, go_sem, cF]) rfl
      ⟨u', by rw [HU'.out, HS.out], by rw [HS.out], HE.1, HE.2⟩
end Go.Proofs.Ytahmdnboeenfkaa

namespace Go.Proofs.Ytahmdnboeenfkaa

theorem rngs_add (g : Nat → Int) (k w : Nat) : rngs g (k + w) = rngs g k ++ (List.range w).map fun u => g (k + u) := by
  induction w with
  | zero => simp
  | succ w ih =>
    rw [← Nat.add_assoc, ← rngs_succ, ih, List.range_succ, List.map_append, List.append_assoc]
    rfl
/-- A stretch of a row of places. -/
theorem row_slice {f : Fld} (h : Okf f) {Wn x y w : Nat} (hW : f.W = (Wn : Int)) (hx : x + w ≤ Wn) (hy : (y : Int) < f.H) :
    (f.ds.drop (y * Wn + x)).take w = (List.range w).map fun u => f.dir ((x + u : Nat) : Int) (y : Int) := by
  apply List.ext_getElem?
  intro i
  rw [List.getElem?_take]
  by_cases hi : i < w
  · rw [if_pos hi, List.getElem?_drop, List.getElem?_map, List.getElem?_range hi, Option.map_some]
    obtain ⟨i0, i1, i2, i3, i4⟩ := idx_bd h.w1 h.w2 h.h2 (show (0 : Int) ≤ ((x + i : Nat) : Int) by omega) (by omega) (show (0 : Int) ≤ (y : Int) by omega) hy
    have hl := h.len
    have e : ((y : Int) * f.W + ((x + i : Nat) : Int)).toNat = y * Wn + x + i := by rw [hW]; omega
    have hk : y * Wn + x + i < f.ds.length := by rw [← e]; omega
    unfold Fld.dir
    rw [e, List.getD_eq_getElem?_getD, List.getElem?_eq_getElem hk]
    rfl
  · rw [if_neg hi, List.getElem?_eq_none (by simp; omega)]

def shE (dx dy : Int) (e : Edg) : Edg := (e.1 + dx, e.2.1 + dy, e.2.2)
theorem shE_lt {dx dy : Int} {a b : Edg} : ltE (shE dx dy a) (shE dx dy b) ↔ ltE a b := by
  unfold ltE shE
  simp only
  omega
theorem sh_sorted {l : List Edg} (h : l.Pairwise ltE) (dx dy : Int) : (l.map (shE dx dy)).Pairwise ltE := by
  rw [List.pairwise_map]
  exact h.imp fun h => shE_lt.2 h
theorem shE_shE (a b c d : Int) (e : Edg) : shE a b (shE c d e) = shE (c + a) (d + b) e := by
  refine Prod.ext ?_ (Prod.ext ?_ ?_)
  all_goals first | rfl | (dsimp only [shE]; omega)
theorem shE_zero (e : Edg) : shE 0 0 e = e := by
  refine Prod.ext ?_ (Prod.ext ?_ ?_)
  all_goals first | rfl | (dsimp only [shE]; omega)

def besG (a b : Fld) (i : Nat) : Int :=
  if ((i % (a.W + b.W).toNat : Nat) : Int) < a.W then a.dir ((i % (a.W + b.W).toNat : Nat) : Int) ((i / (a.W + b.W).toNat : Nat) : Int) else b.dir (((i % (a.W + b.W).toNat : Nat) : Int) - a.W) ((i / (a.W + b.W).toNat : Nat) : Int)
def besF (a b : Fld) : Fld := ⟨a.W + b.W, a.H, (List.range ((a.W + b.W) * a.H).toNat).map (besG a b), a.ps ++ b.ps.map (shE a.W 0)⟩
/-- Beside's two results. -/
def besR (a b : Fld) : Fld × Int :=
  if valid a ≠ 0 then (zeroF, valid a) else if valid b ≠ 0 then (zeroF, valid b) else if a.H ≠ b.H then (zeroF, 8) else if 12 < a.W + b.W then (zeroF, 4) else (fin (besF a b), valid (besF a b))
section
variable {a b : Fld}
theorem besR_bad (h : valid a ≠ 0) : besR a b = (zeroF, valid a) := by unfold besR; rw [if_pos h]
theorem besR_bad2 (h : valid a = 0) (h2 : valid b ≠ 0) : besR a b = (zeroF, valid b) := by unfold besR; rw [if_neg (by simpa using h), if_pos h2]
theorem besR_fit (h : valid a = 0) (h2 : valid b = 0) (h3 : a.H ≠ b.H) : besR a b = (zeroF, 8) := by unfold besR; rw [if_neg (by simpa using h), if_neg (by simpa using h2), if_pos h3]
theorem besR_large (h : valid a = 0) (h2 : valid b = 0) (h3 : a.H = b.H) (h4 : 12 < a.W + b.W) : besR a b = (zeroF, 4) := by unfold besR; rw [if_neg (by simpa using h), if_neg (by simpa using h2), if_neg (by simpa using h3), if_pos h4]
theorem besR_ok (h : valid a = 0) (h2 : valid b = 0) (h3 : a.H = b.H) (h4 : ¬ 12 < a.W + b.W) : besR a b = (fin (besF a b), valid (besF a b)) := by unfold besR; rw [if_neg (by simpa using h), if_neg (by simpa using h2), if_neg (by simpa using h3), if_neg h4]
theorem besG_at {x y Wn : Nat} (hW : a.W + b.W = (Wn : Int)) (hx : x < Wn) : besG a b (y * Wn + x) = if (x : Int) < a.W then a.dir (x : Int) (y : Int) else b.dir ((x : Int) - a.W) (y : Int) := by
  have h1 : (y * Wn + x) % (a.W + b.W).toNat = x := by rw [hW, Int.toNat_natCast, Nat.add_comm, Nat.add_mul_mod_self_right, Nat.mod_eq_of_lt hx]
  have h2 : (y * Wn + x) / (a.W + b.W).toNat = y := by rw [hW, Int.toNat_natCast, Nat.add_comm, Nat.add_mul_div_right _ _ (by omega), Nat.div_eq_of_lt hx, Nat.zero_add]
  unfold besG
  rw [h1, h2]
/-- The two stretches of a row. -/
theorem bes_row1 (ha : Okf a) {An Bn y : Nat} (hA : a.W = (An : Int)) (hB : b.W = (Bn : Int)) (hb : 1 ≤ b.W) (hy : (y : Int) < a.H) :
    rngs (besG a b) (y * (An + Bn)) ++ (a.ds.drop (y * An)).take An = rngs (besG a b) (y * (An + Bn) + An) := by
  rw [rngs_add]
  congr 1
  have := row_slice ha (x := 0) (w := An) hA (by omega) hy
  rw [Nat.add_zero] at this
  rw [this]
  refine List.map_congr_left fun u hu => ?_
  have hu' := List.mem_range.1 hu
  rw [besG_at (by rw [hA, hB]; omega) (by omega), if_pos (by omega), Nat.zero_add]
theorem bes_row2 (hb : Okf b) {An Bn y : Nat} (hA : a.W = (An : Int)) (hB : b.W = (Bn : Int)) (hy : (y : Int) < b.H) :
    rngs (besG a b) (y * (An + Bn) + An) ++ (b.ds.drop (y * Bn)).take Bn = rngs (besG a b) ((y + 1) * (An + Bn)) := by
  rw [show (y + 1) * (An + Bn) = y * (An + Bn) + An + Bn by rw [Nat.add_mul, Nat.one_mul]; omega, rngs_add (besG a b) (y * (An + Bn) + An) Bn]
  congr 1
  have := row_slice hb (x := 0) (w := Bn) hB (by omega) hy
  rw [Nat.add_zero] at this
  rw [this]
  refine List.map_congr_left fun u hu => ?_
  have hu' := List.mem_range.1 hu
  rw [Nat.add_assoc, besG_at (by rw [hA, hB]; omega) (by omega), if_neg (by omega), Nat.zero_add]
  congr 1
  omega
theorem bes_ds {An Bn Hn : Nat} (hA : a.W = (An : Int)) (hB : b.W = (Bn : Int)) (hH : a.H = (Hn : Int)) : rngs (besG a b) (Hn * (An + Bn)) = (besF a b).ds := by
  unfold rngs besF
  have : ((a.W + b.W) * a.H).toNat = Hn * (An + Bn) := by
    rw [hA, hB, hH, Nat.mul_comm]
    have : ((An : Int) + (Bn : Int)) * (Hn : Int) = (((An + Bn) * Hn : Nat) : Int) := by push_cast; rfl
    rw [this, Int.toNat_natCast]
  rw [this]
theorem isE_x {W H : Int} {e : Edg} (h : isE W H e = true) : 0 ≤ e.1 ∧ e.1 < W := by
  unfold isE at h
  rw [decide_eq_true_eq] at h
  omega
theorem bes_sorted (ha : Okf a) (hb : Okf b) : (besF a b).ps.Pairwise ltE := by
  show (a.ps ++ b.ps.map (shE a.W 0)).Pairwise ltE
  rw [List.pairwise_append]
  refine ⟨ha.sorted, sh_sorted hb.sorted _ _, fun x hx y hy => ?_⟩
  rw [List.mem_map] at hy
  obtain ⟨e, he, rfl⟩ := hy
  have h1 := isE_x (ha.edge x hx)
  have h2 := isE_x (hb.edge e he)
  unfold ltE shE
  simp only
  omega
theorem bes_dir (ha : Okf a) (hb : Okf b) (hw : a.W + b.W ≤ 12) (x y : Int) (x0 : 0 ≤ x) (x1 : x < a.W + b.W) (y0 : 0 ≤ y) (y1 : y < a.H) : (besF a b).dir x y = if x < a.W then a.dir x y else b.dir (x - a.W) y := by
  obtain ⟨p, rfl⟩ := Int.eq_ofNat_of_zero_le x0
  obtain ⟨q, rfl⟩ := Int.eq_ofNat_of_zero_le y0
  have h1 := ha.w1
  have h2 := hb.w1
  obtain ⟨i0, i1, i2, i3, i4⟩ := idx_bd (show 1 ≤ a.W + b.W by omega) hw ha.h2 x0 x1 y0 y1
  obtain ⟨Wn, hW⟩ := Int.eq_ofNat_of_zero_le (show 0 ≤ a.W + b.W by omega)
  unfold besF
  rw [dir_range i3 i0]
  have e : ((q : Int) * (a.W + b.W) + (p : Int)).toNat = q * Wn + p := by rw [hW]; omega
  rw [e, besG_at hW (by omega)]
end

def cropG (f : Fld) (x y w : Int) (i : Nat) : Int := f.dir (x + ((i % w.toNat : Nat) : Int)) (y + ((i / w.toNat : Nat) : Int))
def cropF (f : Fld) (x y w h : Int) : Fld := ⟨w, h, (List.range (w * h).toNat).map (cropG f x y w), (f.ps.map (shE (-x) (-y))).filter (fun e => isE w h e)⟩
def cropOk (f : Fld) (x y w h : Int) : Prop := 1 ≤ w ∧ 1 ≤ h ∧ 0 ≤ x ∧ 0 ≤ y ∧ x + w ≤ f.W ∧ y + h ≤ f.H
instance (f : Fld) (x y w h : Int) : Decidable (cropOk f x y w h) := by unfold cropOk; infer_instance
/-- Crop's two results. -/
def cropR (f : Fld) (x y w h : Int) : Fld × Int := if valid f ≠ 0 then (zeroF, valid f) else if ¬ cropOk f x y w h then (zeroF, 1) else (fin (cropF f x y w h), valid (cropF f x y w h))
section
variable {f : Fld} {x y w h : Int}
theorem cropR_bad (hv : valid f ≠ 0) : cropR f x y w h = (zeroF, valid f) := by unfold cropR; rw [if_pos hv]
theorem cropR_arg (hv : valid f = 0) (ho : ¬ cropOk f x y w h) : cropR f x y w h = (zeroF, 1) := by unfold cropR; rw [if_neg (by simpa using hv), if_pos ho]
theorem cropR_ok (hv : valid f = 0) (ho : cropOk f x y w h) : cropR f x y w h = (fin (cropF f x y w h), valid (cropF f x y w h)) := by unfold cropR; rw [if_neg (by simpa using hv), if_neg (by simpa using ho)]
theorem cropG_at {i j Wn : Nat} (hW : w = (Wn : Int)) (hi : i < Wn) : cropG f x y w (j * Wn + i) = f.dir (x + (i : Int)) (y + (j : Int)) := by
  have h1 : (j * Wn + i) % w.toNat = i := by rw [hW, Int.toNat_natCast, Nat.add_comm, Nat.add_mul_mod_self_right, Nat.mod_eq_of_lt hi]
  have h2 : (j * Wn + i) / w.toNat = j := by rw [hW, Int.toNat_natCast, Nat.add_comm, Nat.add_mul_div_right _ _ (by omega), Nat.div_eq_of_lt hi, Nat.zero_add]
  unfold cropG
  rw [h1, h2]
theorem crop_row (ho : Okf f) {Fn Wn xn yn j : Nat} (hF : f.W = (Fn : Int)) (hx : x = (xn : Int)) (hy : y = (yn : Int)) (hW : w = (Wn : Int)) (h1 : xn + Wn ≤ Fn) (h2 : ((yn + j : Nat) : Int) < f.H) :
    rngs (cropG f x y w) (j * Wn) ++ (f.ds.drop ((yn + j) * Fn + xn)).take Wn = rngs (cropG f x y w) ((j + 1) * Wn) := by
  rw [show (j + 1) * Wn = j * Wn + Wn by rw [Nat.add_mul, Nat.one_mul], rngs_add]
  congr 1
  rw [row_slice ho hF h1 h2]
  refine List.map_congr_left fun u hu => ?_
  have hu' := List.mem_range.1 hu
  rw [cropG_at hW hu', hx, hy]
  congr 1
theorem crop_ds {Wn Hn : Nat} (hW : w = (Wn : Int)) (hH : h = (Hn : Int)) : rngs (cropG f x y w) (Hn * Wn) = (cropF f x y w h).ds := by
  unfold rngs cropF
  have : (w * h).toNat = Hn * Wn := by
    rw [hW, hH, Nat.mul_comm]
    have : (Wn : Int) * (Hn : Int) = ((Wn * Hn : Nat) : Int) := by push_cast; rfl
    rw [this, Int.toNat_natCast]
  rw [this]
theorem crop_sorted (ho : Okf f) : (cropF f x y w h).ps.Pairwise ltE := (sh_sorted ho.sorted _ _).filter _
theorem crop_dir (ho : Okf f) (hc : cropOk f x y w h) (i j : Int) (i0 : 0 ≤ i) (i1 : i < w) (j0 : 0 ≤ j) (j1 : j < h) : (cropF f x y w h).dir i j = f.dir (x + i) (y + j) := by
  obtain ⟨c1, c2, c3, c4, c5, c6⟩ := hc
  have o1 := ho.w2
  have o2 := ho.h2
  obtain ⟨p, rfl⟩ := Int.eq_ofNat_of_zero_le i0
  obtain ⟨q, rfl⟩ := Int.eq_ofNat_of_zero_le j0
  obtain ⟨k0, k1, k2, k3, k4⟩ := idx_bd c1 (by omega) (show h ≤ 12 by omega) i0 i1 j0 j1
  obtain ⟨Wn, hW⟩ := Int.eq_ofNat_of_zero_le (show 0 ≤ w by omega)
  unfold cropF
  rw [dir_range k3 k0]
  have e : ((q : Int) * w + (p : Int)).toNat = q * Wn + p := by rw [hW]; omega
  rw [e, cropG_at hW (by omega)]
theorem crop_okf (ho : Okf f) (hc : cropOk f x y w h) : Okf (cropF f x y w h) := by
  have hc' := hc
  obtain ⟨c1, c2, c3, c4, c5, c6⟩ := hc
  have o1 := ho.w2
  have o2 := ho.h2
  have h0 : 0 ≤ w * h := Int.mul_nonneg (by omega) (by omega)
  refine ⟨c1, by show w ≤ 12; omega, c2, by show h ≤ 12; omega, ?_, ?_, ?_, ?_, crop_sorted ho⟩
  · show (((List.range (w * h).toNat).map (cropG f x y w)).length : Int) = w * h
    rw [List.length_map, List.length_range]; omega
  · intro d hd
    have hd' : d ∈ (List.range (w * h).toNat).map (cropG f x y w) := hd
    rw [List.mem_map] at hd'
    obtain ⟨i, hi, rfl⟩ := hd'
    have hi' := List.mem_range.1 hi
    obtain ⟨Wn, hW⟩ := Int.eq_ofNat_of_zero_le (show 0 ≤ w by omega)
    obtain ⟨Hn, hH⟩ := Int.eq_ofNat_of_zero_le (show 0 ≤ h by omega)
    have hWn : 0 < Wn := by omega
    have e1 : (w * h).toNat = Hn * Wn := by
      rw [hW, hH, Nat.mul_comm]
      have : (Wn : Int) * (Hn : Int) = ((Wn * Hn : Nat) : Int) := by push_cast; rfl
      rw [this, Int.toNat_natCast]
    rw [e1] at hi'
    have e2 : i / w.toNat < Hn := by rw [hW, Int.toNat_natCast, Nat.div_lt_iff_lt_mul hWn]; exact hi'
    have e3 : i % w.toNat < Wn := by rw [hW, Int.toNat_natCast]; exact Nat.mod_lt _ hWn
    unfold cropG
    generalize i / w.toNat = q at e2 ⊢
    generalize i % w.toNat = r at e3 ⊢
    exact dir_bd ho _ _ (by omega) (by omega) (by omega) (by omega)
  · show ((f.ps.map (shE (-x) (-y))).filter (fun e => isE w h e)).length ≤ 60
    have := List.length_filter_le (fun e => isE w h e) (f.ps.map (shE (-x) (-y)))
    rw [List.length_map] at this
    have := ho.cnt
    omega
  · intro e he
    have he' : e ∈ (f.ps.map (shE (-x) (-y))).filter (fun e => isE w h e) := he
    exact (List.mem_filter.1 he').2
end
section
variable {a b : Fld}
theorem bes_left (hv : valid (besF a b) = 0) (ha : valid a = 0) (hb : valid b = 0) : cropR (besF a b) 0 0 a.W a.H = (a, 0) := by
  have oa := okf_of_valid ha
  have ob := okf_of_valid hb
  have og := okf_of_valid hv
  have a1 := oa.w1
  have a2 := oa.h1
  have b1 := ob.w1
  have hw : a.W + b.W ≤ 12 := og.w2
  have hc : cropOk (besF a b) 0 0 a.W a.H := ⟨a1, a2, Int.le_refl _, Int.le_refl _, by show 0 + a.W ≤ a.W + b.W; omega, by show 0 + a.H ≤ a.H; omega⟩
  have e : cropF (besF a b) 0 0 a.W a.H = a := by
    refine fld_ext (crop_okf og hc) oa rfl rfl ?_ ?_
    · intro x y x0 x1 y0 y1
      have x1' : x < a.W := x1
      have y1' : y < a.H := y1
      rw [crop_dir og hc x y x0 x1 y0 y1, bes_dir oa ob hw _ _ (by omega) (by omega) (by omega) (by omega), if_pos (by omega), Int.zero_add, Int.zero_add]
    · show ((a.ps ++ b.ps.map (shE a.W 0)).map (shE (-0) (-0))).filter (fun e => isE a.W a.H e) = a.ps
      rw [List.map_append, List.filter_append, List.map_map]
      have h1 : (a.ps.map (shE (-0) (-0))).filter (fun e => isE a.W a.H e) = a.ps := by
        rw [show (-0 : Int) = 0 from rfl, List.map_congr_left (g := id) (fun e _ => shE_zero e), List.map_id, List.filter_eq_self]
        exact oa.edge
      have h2 : (b.ps.map (shE (-0) (-0) ∘ shE a.W 0)).filter (fun e => isE a.W a.H e) = [] := by
        rw [List.filter_eq_nil_iff]
        intro e he hE
        rw [List.mem_map] at he
        obtain ⟨z, hz, rfl⟩ := he
        have h3 := isE_x hE
        have h4 := isE_x (ob.edge z hz)
        simp only [Function.comp, shE] at h3
        omega
      rw [h1, h2, List.append_nil]
  rw [cropR_ok hv hc, e, ha]
  unfold fin
  rw [if_pos ha]
theorem bes_right (hv : valid (besF a b) = 0) (ha : valid a = 0) (hb : valid b = 0) (hH : a.H = b.H) : cropR (besF a b) a.W 0 b.W b.H = (b, 0) := by
  have oa := okf_of_valid ha
  have ob := okf_of_valid hb
  have og := okf_of_valid hv
  have a1 := oa.w1
  have b1 := ob.w1
  have b2 := ob.h1
  have hw : a.W + b.W ≤ 12 := og.w2
  have hc : cropOk (besF a b) a.W 0 b.W b.H := ⟨b1, b2, by omega, Int.le_refl _, by show a.W + b.W ≤ a.W + b.W; omega, by show 0 + b.H ≤ a.H; omega⟩
  have e : cropF (besF a b) a.W 0 b.W b.H = b := by
    refine fld_ext (crop_okf og hc) ob rfl rfl ?_ ?_
    · intro x y x0 x1 y0 y1
      have x1' : x < b.W := x1
      have y1' : y < b.H := y1
      rw [crop_dir og hc x y x0 x1 y0 y1, bes_dir oa ob hw _ _ (by omega) (by omega) (by omega) (by omega), if_neg (by omega), Int.zero_add, show a.W + x - a.W = x by omega]
    · show ((a.ps ++ b.ps.map (shE a.W 0)).map (shE (-a.W) (-0))).filter (fun e => isE b.W b.H e) = b.ps
      rw [List.map_append, List.filter_append, List.map_map]
      have h1 : (a.ps.map (shE (-a.W) (-0))).filter (fun e => isE b.W b.H e) = [] := by
        rw [List.filter_eq_nil_iff]
        intro e he hE
        rw [List.mem_map] at he
        obtain ⟨z, hz, rfl⟩ := he
        have h3 := isE_x hE
        have h4 := isE_x (oa.edge z hz)
        simp only [shE] at h3
        omega
      have h2 : (b.ps.map (shE (-a.W) (-0) ∘ shE a.W 0)).filter (fun e => isE b.W b.H e) = b.ps := by
        rw [List.map_congr_left (g := id) (fun e _ => ?_), List.map_id, List.filter_eq_self]
        · exact ob.edge
        · show shE (-a.W) (-0) (shE a.W 0 e) = e
          rw [shE_shE, show a.W + -a.W = 0 by omega]
          exact shE_zero e
      rw [h1, h2, List.nil_append]
  rw [cropR_ok hv hc, e, hb]
  unfold fin
  rw [if_pos hb]
/-- What the law asks behind a field beside another one. -/
theorem besR_parts (h : (besR a b).2 = 0) : cropR (besR a b).1 0 0 a.W a.H = (a, 0) ∧ cropR (besR a b).1 a.W 0 b.W b.H = (b, 0) := by
  by_cases ha : valid a = 0
  · by_cases hb : valid b = 0
    · by_cases hH : a.H = b.H
      · by_cases hw : 12 < a.W + b.W
        · rw [besR_large ha hb hH hw] at h; cases h
        · rw [besR_ok ha hb hH hw] at h ⊢
          have hv : valid (besF a b) = 0 := h
          have hf : fin (besF a b) = besF a b := by unfold fin; rw [if_pos hv]
          rw [hf]
          exact ⟨bes_left hv ha hb, bes_right hv ha hb hH⟩
      · rw [besR_fit ha hb hH] at h; cases h
    · rw [besR_bad2 ha hb] at h; exact absurd h hb
  · rw [besR_bad ha] at h; exact absurd h ha
end
end Go.Proofs.Ytahmdnboeenfkaa

namespace Go.Proofs.Ytahmdnboeenfkaa
open Go.RowKit Go.Sort

set_option maxRecDepth 4000 in
theorem run_pushX (bl : Nat) (w : World) (ty t e : TypeId) {z : Value} {sz bytes : Nat} (ht : Try.prog.underlying t = some (.slice e))
    (hinfo : (Try.prog.info? e).map (fun i => (i.zero, i.size, i.bytes)) = some (some z, sz, bytes)) (hzs : z.cells.size = sz) (hsz : 0 < sz) (hby : bytes ≤ 1000)
    (A : Option Addr) (n c : Nat) (xs : List Value) (ad : Addr) (m cc : Nat) (news : List Value) (hown : w.ownsRow bl e sz (.slice A n c) n xs) (hbl : bl ≤ w.heap.size)
    (hl : news.length = m * sz) (hcell : ∀ j u, news[j]? = some u → w.cell? (ad.add j) = some u) (h1 : ∀ u ∈ news, u.oneCell' = true) (hlen : n + m ≤ 1000000000) :
    ∃ A' c' w', (Builtin.append_ #[t, t] ty #[.slice A n c, .slice (some ad) m cc]).run Try.prog w = .ok (.slice A' (n + m) c') w' ∧ w'.ownsRow bl e sz (.slice A' (n + m) c') (n + m) (xs ++ news) ∧
      w.grownBy w' (Value.slice A n c).ownBlock ∧ (A' = A ∨ ∀ p, A' = some p → w.heap.size ≤ p.block) := by
  obtain ⟨i0, hi, hz0, hz1, hz2⟩ := info_parts hinfo
  have h63 : n + m ≤ maxLen := by unfold maxLen; omega
  have hbytes : (n + m) * bytes ≤ 140737488355328 := by
    have := Nat.mul_le_mul hlen hby
    omega
  by_cases hroom : n + m ≤ c
  · cases A with
    | none =>
      obtain ⟨v', w', hrun, r1, r2, r3⟩ := run_append_own (P := Try.prog) w bl t ty e i0 _ sz bytes ht hi hz0 hz1 hz2 hzs hsz (.slice none n c) n xs hown ad m cc news hl hcell h1 h63 hbytes hbl
      obtain ⟨A', c', rfl⟩ := row_form r1
      have hn0 : n = 0 ∧ c = 0 := by
        rcases hown.2 with ⟨hv, h0⟩ | ⟨g', cap', cur, hv, _⟩
        · injection hv with _ e2 e3; exact ⟨e2, e3⟩
        · cases hv
      obtain ⟨rfl, rfl⟩ := hn0
      obtain rfl : m = 0 := by omega
      have : (Value.slice A' (0 + 0) c') = .slice none 0 0 := r3.2 ⟨rfl, rfl⟩
      injection this with e1 _ _
      exact ⟨A', c', w', hrun, r1, r2, .inl e1⟩
    | some p =>
      obtain ⟨g, rfl⟩ : ∃ g, p = ⟨g, 0, none⟩ := by
        rcases hown.2 with ⟨hv, h0⟩ | ⟨g', cap', cur, hv, _⟩
        · cases hv
        · injection hv with e1 _ _; injection e1 with e1; exact ⟨g', e1⟩
      obtain ⟨w', hr, h2, h3⟩ := run_append_fits (P := Try.prog) w bl t ty e i0 sz ht hi hz1 g n c xs hown ad m cc news hl hcell h1 hroom
      exact ⟨_, _, w', hr, h2, h3, .inl rfl⟩
  · cases A with
    | none =>
      have hn0 : n = 0 ∧ c = 0 := by
        rcases hown.2 with ⟨hv, h0⟩ | ⟨g', cap', cur, hv, _⟩
        · injection hv with _ e2 e3; exact ⟨e2, e3⟩
        · cases hv
      obtain ⟨rfl, rfl⟩ := hn0
      obtain ⟨v', w', hrun, r1, r2, _⟩ := run_append_own (P := Try.prog) w w.heap.size t ty e i0 _ sz bytes ht hi hz0 hz1 hz2 hzs hsz (.slice none 0 0) 0 [] (World.ownsRow_nil w _ e sz) ad m cc news hl hcell h1 h63 hbytes (Nat.le_refl _)
      obtain ⟨A', c', rfl⟩ := row_form r1
      have r3 : w'.ownsRow bl e sz (.slice A' (0 + m) c') (0 + m) (xs ++ news) := by
        have := row_mono r1 hbl
        rw [show xs = [] from List.eq_nil_of_length_eq_zero (by simpa using hown.1)]
        exact this
      exact ⟨A', c', w', hrun, r3, ⟨r2.os, r2.tape, r2.output, r2.size, r2.block⟩, .inr fun p hp => (r1.lt p.block (by rw [hp]; rfl)).1⟩
    | some p =>
      have holds : ∀ j u, xs[j]? = some u → w.cell? (p.add j) = some u := by
        intro j u hj
        have hr := Reads.of_own hown
        have hjl := (List.getElem?_eq_some_iff.1 hj).1
        have hn0 : 0 < n := by
          rcases Nat.eq_zero_or_pos n with h0 | h0
          · have := hown.1; rw [h0] at this; omega
          · exact h0
        obtain ⟨q, hq, _, hc⟩ := hr.look hn0
        injection hq with hq; subst hq
        exact hc j u hj
      obtain ⟨v', w', hrun, r1, r2⟩ := run_append_arg_grows (P := Try.prog) w t ty e i0 _ sz bytes ht hi hz0 hz1 hz2 hzs hsz p n c xs hown.1 holds ad m cc news hl hcell (by omega) h63 hbytes
      obtain ⟨A', c', rfl⟩ := row_form r1
      exact ⟨A', c', w', hrun, row_mono r1 hbl, ⟨r2.os, r2.tape, r2.output, r2.size, fun k hk _ => r2.block k hk (by simp)⟩, .inr fun p hp => (r1.lt p.block (by rw [hp]; rfl)).1⟩
set_option maxRecDepth 4000 in
/-- The same, whatever the second slice's address. -/
theorem run_pushXn (bl : Nat) (w : World) (ty t e : TypeId) {z : Value} {sz bytes : Nat} (ht : Try.prog.underlying t = some (.slice e))
    (hinfo : (Try.prog.info? e).map (fun i => (i.zero, i.size, i.bytes)) = some (some z, sz, bytes)) (hzs : z.cells.size = sz) (hsz : 0 < sz) (hby : bytes ≤ 1000)
    (A : Option Addr) (n c : Nat) (xs : List Value) (X : Option Addr) (m cc : Nat) (news : List Value) (hown : w.ownsRow bl e sz (.slice A n c) n xs) (hbl : bl ≤ w.heap.size)
    (hr : Reads w w.heap.size sz X m news) (hX : X = none → m = 0 ∧ cc = 0) (h1 : ∀ u ∈ news, u.oneCell' = true) (hlen : n + m ≤ 1000000000) :
    ∃ A' c' w', (Builtin.append_ #[t, t] ty #[.slice A n c, .slice X m cc]).run Try.prog w = .ok (.slice A' (n + m) c') w' ∧ w'.ownsRow bl e sz (.slice A' (n + m) c') (n + m) (xs ++ news) ∧
      w.grownBy w' (Value.slice A n c).ownBlock ∧ (A' = A ∨ ∀ p, A' = some p → w.heap.size ≤ p.block) := by
  cases X with
  | some ad =>
    refine run_pushX bl w ty t e ht hinfo hzs hsz hby A n c xs ad m cc news hown hbl hr.len ?_ h1 hlen
    intro j u hj
    rcases Nat.eq_zero_or_pos m with h0 | h0
    · have := hr.len; rw [h0, Nat.zero_mul] at this
      rw [List.eq_nil_of_length_eq_zero this] at hj; cases hj
    · obtain ⟨q, hq, _, hc⟩ := hr.look h0
      injection hq with hq; subst hq
      exact hc j u hj
  | none =>
    obtain ⟨rfl, rfl⟩ := hX rfl
    obtain ⟨i0, hi, hz0, hz1, hz2⟩ := info_parts hinfo
    obtain rfl : news = [] := List.eq_nil_of_length_eq_zero (by simpa using hr.len)
    have hrun := run_append_owned_none (P := Try.prog) w bl t ty e i0 sz ht hi (.slice A n c) n xs hown
    exact ⟨A, c, w, hrun, by simpa using hown, World.grownBy.refl _ _, .inl rfl⟩
set_option maxRecDepth 4000 in
theorem step_pushX {ops : Array Oper} {o : Oper} {a : Act} {K : Act → World → Prop} {Q : Exit → Act → World → Prop} {E : Prop} (hgd : o.guard = none) (s x : Operand) (t e : TypeId)
    (ho : o.op = .call { callee := .builtin .append, args := #[s, x], argTypes := #[t, t] }) {z : Value} {sz bytes : Nat} (ht : Try.prog.underlying t = some (.slice e))
    (hinfo : (Try.prog.info? e).map (fun i => (i.zero, i.size, i.bytes)) = some (some z, sz, bytes)) (hzs : z.cells.size = sz) (hsz : 0 < sz) (hby : bytes ≤ 1000)
    (bl : Nat) (w : World) (A : Option Addr) (n c : Nat) (xs : List Value) (X : Option Addr) (m cc : Nat) (news : List Value) (hs : a.eval s = .slice A n c) (hown : w.ownsRow bl e sz (.slice A n c) n xs) (hbl : bl ≤ w.heap.size)
    (hx : a.eval x = .slice X m cc) (hr : Reads w w.heap.size sz X m news) (hX : X = none → m = 0 ∧ cc = 0) (h1 : ∀ u ∈ news, u.oneCell' = true) (hlen : n + m ≤ 1000000000)
    (h : ∀ A' c' w', w'.ownsRow bl e sz (.slice A' (n + m) c') (n + m) (xs ++ news) → w.grownBy w' (Value.slice A n c).ownBlock → (A' = A ∨ ∀ p, A' = some p → w.heap.size ≤ p.block) → K (a.put o.dst (.slice A' (n + m) c')) w') :
    if Region.wanted o (yielded ops a.tmps) = true then Oper.wp Try.prog o a w K Q else E := by
  have hw : Region.wanted o (yielded ops a.tmps) = true := by simp [Region.wanted, hgd]
  rw [if_pos hw]
  obtain ⟨A', c', w', hrun, h2, h3, h4⟩ := run_pushXn bl w o.type t e ht hinfo hzs hsz hby A n c xs X m cc news hown hbl hr hX h1 hlen
  unfold Oper.wp execOp
  simp only [ho, resolve, invoke, builtin, Sem.run_bind, Sem.run_pure, Result.andThen_ok, List.map_toArray, List.map_cons, List.map_nil, hs, hx, hrun]
  exact h A' c' w' h2 h3 h4
set_option maxRecDepth 4000 in
theorem wpList_pushXn {ops : Array Oper} {rest : List Oper} {o : Oper} {a : Act} {Q : Exit → Act → World → Prop} (hgd : o.guard = none) (s x : Operand) (t e : TypeId)
    (ho : o.op = .call { callee := .builtin .append, args := #[s, x], argTypes := #[t, t] }) {z : Value} {sz bytes : Nat} (ht : Try.prog.underlying t = some (.slice e))
    (hinfo : (Try.prog.info? e).map (fun i => (i.zero, i.size, i.bytes)) = some (some z, sz, bytes)) (hzs : z.cells.size = sz) (hsz : 0 < sz) (hby : bytes ≤ 1000)
    (bl : Nat) (w : World) (A : Option Addr) (n c : Nat) (xs : List Value) (X : Option Addr) (m cc : Nat) (news : List Value) (hs : a.eval s = .slice A n c) (hown : w.ownsRow bl e sz (.slice A n c) n xs) (hbl : bl ≤ w.heap.size)
    (hx : a.eval x = .slice X m cc) (hr : Reads w w.heap.size sz X m news) (hX : X = none → m = 0 ∧ cc = 0) (h1 : ∀ u ∈ news, u.oneCell' = true) (hlen : n + m ≤ 1000000000)
    (h : ∀ A' c' w', w'.ownsRow bl e sz (.slice A' (n + m) c') (n + m) (xs ++ news) → w.grownBy w' (Value.slice A n c).ownBlock → (A' = A ∨ ∀ p, A' = some p → w.heap.size ≤ p.block) → wpList Try.prog ops Q rest (a.put o.dst (.slice A' (n + m) c')) w') :
    wpList Try.prog ops Q (o :: rest) a w := by
  obtain ⟨A', c', w', hrun, h2, h3, h4⟩ := run_pushXn bl w o.type t e ht hinfo hzs hsz hby A n c xs X m cc news hown hbl hr hX h1 hlen
  refine wpList_plain hgd fun K hK' => ?_
  unfold Oper.wp execOp
  simp only [ho, resolve, invoke, builtin, Sem.run_bind, Sem.run_pure, Result.andThen_ok, List.map_toArray, List.map_cons, List.map_nil, hs, hx, hrun]
  exact hK' _ _ (h A' c' w' h2 h3 h4)
section
variable {w1 w w' : World} {a b B : Nat} {v : FV}
/-- The directions of a field that is being made: another row, in place or anew. -/
theorem GF.putD (h : GF w1 a b w B v) {A' : Option Addr} {n' c' : Nat} {ds' : List Int}
    (hr : w'.ownsRow a 3 1 (.slice A' n' c') n' (ints ds')) (hg : w.grownBy w' (Value.slice v.A v.n v.c).ownBlock) (hnew : A' = v.A ∨ ∀ p, A' = some p → w.heap.size ≤ p.block) :
    GF w1 a b (w'.setCell ⟨B, 2, none⟩ (.slice A' n' c')) B ⟨{ v.f with ds := ds' }, A', v.B, n', c', v.m, v.d⟩ := by
  have hBw := h.box.1
  have hrow : ∀ k, (Value.slice v.A v.n v.c).ownBlock = some k → a ≤ k := fun k hk => (h.ds.lt k hk).1
  have hbox : Box w' B #[.int .i64 v.f.W, .int .i64 v.f.H, .slice v.A v.n v.c, .slice v.B v.m v.d] := h.box.grown hg fun k hk => by obtain ⟨p, hp, rfl⟩ := own_blk hk; exact h.nA p hp
  have hfz := fz_grown hBw h.fz hg fun k hk => by obtain ⟨p, hp, rfl⟩ := own_blk hk; exact h.nA p hp
  have hA2 : ∀ p, A' = some p → p.block ≠ B := fun p hp => by
    rcases hnew with h0 | h0
    · exact h.nA p (h0 ▸ hp)
    · have := h0 p hp; omega
  have hps : w'.ownsRow b 33 3 (.slice v.B v.m v.d) v.m (edgs v.f.ps) := by
    refine h.ps.kept hg ?_
    cases hB : v.B with
    | none => exact .inl rfl
    | some p =>
      refine .inr ?_
      cases hA : v.A with
      | none => simp [Value.ownBlock]
      | some q => simp [Value.ownBlock]; exact fun e => h.ne q p hA hB e.symm
  refine ⟨?_, fun j => ?_, ?_, ?_, ?_, hA2, h.nB, ?_, h.hB, h.ha, h.hb⟩
  · have := hbox.set (i := 2) (by simp) (.slice A' n' c'); simpa using this
  · rw [World.frozen?_setCell]; exact hfz j
  · exact row_far hr (q := ⟨B, 2, none⟩) (fun k hk => by obtain ⟨p, hp, rfl⟩ := own_blk hk; exact hA2 p hp) _
  · exact row_far hps (q := ⟨B, 2, none⟩) (fun k hk => by obtain ⟨p, hp, rfl⟩ := own_blk hk; exact h.nB p hp) _
  · intro p q hp hq
    rcases hnew with h0 | h0
    · exact h.ne p q (h0 ▸ hp) hq
    · have := h0 p hp
      have := (h.ps.lt q.block (by rw [show v.B = some q from hq]; rfl)).2
      omega
  · exact (h.bel.grown hg h.bel.size fun k hk => Nat.le_trans h.ha (hrow k hk)).setCell (p := ⟨B, 2, none⟩) h.hB _
end
/-- A world behind a name, whatever stands ahead of it. -/
theorem gen_at {M : World → Prop} {w : World} (P : World → Prop) (h : P w) (k : ∀ W, P W → M W) : M w := k w h
/-- A field with a row of partings, laid into a box that was made ahead of them. -/
theorem GF.boxed2 {w2 w3 : World} {B' : Option Addr} {m d : Nat} {ps : List Edg} {t : TypeId} (hb : Below (w2.alloc (.cells #[.int .i64 0, .int .i64 0, .slice none 0 0, .slice none 0 0] t)).heap.size (w2.alloc (.cells #[.int .i64 0, .int .i64 0, .slice none 0 0, .slice none 0 0] t)) w3)
    (hr : w3.ownsRow (w2.heap.size + 1) 33 3 (.slice B' m d) m (edgs ps)) (W H : Int) :
    GF w2 w2.heap.size w2.heap.size ((((w3.setCell ⟨w2.heap.size, 0, none⟩ (.int .i64 W)).setCell ⟨w2.heap.size, 1, none⟩ (.int .i64 H)).setCell ⟨w2.heap.size, 2, none⟩ (.slice none 0 0)).setCell ⟨w2.heap.size, 3, none⟩ (.slice B' m d)) w2.heap.size ⟨⟨W, H, [], ps⟩, none, B', 0, 0, m, d⟩ := by
  have bx := (Box.new w2 #[.int .i64 0, .int .i64 0, .slice none 0 0, .slice none 0 0] t).below hb
  have fx := fz_below (Box.new w2 #[.int .i64 0, .int .i64 0, .slice none 0 0, .slice none 0 0] t).1 (fz_new w2 _ t) hb
  have hk : ∀ i k, (Value.slice B' m d).ownBlock = some k → k ≠ (⟨w2.heap.size, i, none⟩ : Addr).block := fun i k hk => by
    have := (hr.lt k hk).1
    show k ≠ w2.heap.size
    omega
  have h0 := below1 _ hb
  refine ⟨bx.four _ _ _ _, fun i => ?_, World.ownsRow_nil _ _ _ _, row_mono (row_far (row_far (row_far (row_far hr (hk 0) _) (hk 1) _) (hk 2) _) (hk 3) _) (Nat.le_succ _), fun p q h => (by cases h), fun p h => (by cases h), fun p h => ?_, ?_, Nat.le_refl _, Nat.le_refl _, Nat.le_refl _⟩
  · rw [World.frozen?_setCell, World.frozen?_setCell, World.frozen?_setCell, World.frozen?_setCell]; exact fx i
  · have := (hr.lt p.block (by rw [show B' = some p from h]; rfl)).1
    omega
  · exact (((h0.setCell (p := ⟨w2.heap.size, 0, none⟩) (Nat.le_refl _) _).setCell (p := ⟨w2.heap.size, 1, none⟩) (Nat.le_refl _) _).setCell (p := ⟨w2.heap.size, 2, none⟩) (Nat.le_refl _) _).setCell (p := ⟨w2.heap.size, 3, none⟩) (Nat.le_refl _) _
/-- What a slice of a row of ints reads. -/
theorem ints_part {w : World} {Bd : Nat} {A : Option Addr} {n : Nat} {zs : List Int} (h : Reads w Bd 1 A n (ints zs)) {k m : Nat} (hm : 0 < m) (hk : k + m ≤ n) :
    ∃ p : Addr, A = some p ∧ Reads w Bd 1 (some (p.add k)) m (ints ((zs.drop k).take m)) := by
  obtain ⟨p, hp, hb, hc⟩ := h.look (show 0 < n by omega)
  have hl := h.len
  rw [ints_length, Nat.mul_one] at hl
  refine ⟨p, hp, ⟨by rw [ints_length, List.length_take, List.length_drop]; omega, fun _ => ⟨p.add k, rfl, by rw [blockAdd]; exact hb, fun j u hu => ?_⟩⟩⟩
  have hj : j < m := by
    have := (List.getElem?_eq_some_iff.1 hu).1
    rw [ints_length, List.length_take, List.length_drop] at this
    omega
  rw [add_of_add]
  refine hc (k + j) u ?_
  unfold ints at *
  rw [List.getElem?_map, List.getElem?_take, if_pos hj, List.getElem?_drop] at hu
  rw [List.getElem?_map]
  exact hu
end Go.Proofs.Ytahmdnboeenfkaa

namespace Go.Proofs.Ytahmdnboeenfkaa
open Go.RowKit Go.Sort

theorem run_append_none (w : World) (base : Nat) (t ty e : TypeId) (i : TypeInfo) (size : Nat) (ht : Try.prog.underlying t = some (.slice e)) (hi : Try.prog.info? e = some i)
    (v : Value) (n cc : Nat) (xs : List Value) (hown : w.ownsRow base e size v n xs) :
    (Builtin.append_ #[t, t] ty #[v, .slice none 0 cc]).run Try.prog w = .ok v w := by
  rcases hown.2 with ⟨rfl, rfl⟩ | ⟨g, cap, cur, rfl, _, _, hnc, _⟩
  · simp [Builtin.append_, run_underlying ht, sizeOf, typeInfo, hi, Builtin.lenOf, Builtin.firstCells]
  · simp [Builtin.append_, run_underlying ht, sizeOf, typeInfo, hi, Builtin.lenOf, Builtin.firstCells, hnc, storeCells]
set_option maxRecDepth 4000 in
theorem wpList_pushXm {ops : Array Oper} {rest : List Oper} {o : Oper} {a : Act} {Q : Exit → Act → World → Prop} (hgd : o.guard = none) (s x : Operand) (t e : TypeId)
    (ho : o.op = .call { callee := .builtin .append, args := #[s, x], argTypes := #[t, t] }) {z : Value} {sz bytes : Nat} (ht : Try.prog.underlying t = some (.slice e))
    (hinfo : (Try.prog.info? e).map (fun i => (i.zero, i.size, i.bytes)) = some (some z, sz, bytes)) (hzs : z.cells.size = sz) (hsz : 0 < sz) (hby : bytes ≤ 1000)
    (bl : Nat) (w : World) (A : Option Addr) (n c : Nat) (xs : List Value) (X : Option Addr) (m cc : Nat) (news : List Value) (hs : a.eval s = .slice A n c) (hown : w.ownsRow bl e sz (.slice A n c) n xs) (hbl : bl ≤ w.heap.size)
    (hx : a.eval x = .slice X m cc) (hr : Reads w w.heap.size sz X m news) (h1 : ∀ u ∈ news, u.oneCell' = true) (hlen : n + m ≤ 1000000000)
    (h : ∀ A' c' w', w'.ownsRow bl e sz (.slice A' (n + m) c') (n + m) (xs ++ news) → w.grownBy w' (Value.slice A n c).ownBlock → (A' = A ∨ ∀ p, A' = some p → w.heap.size ≤ p.block) → wpList Try.prog ops Q rest (a.put o.dst (.slice A' (n + m) c')) w') :
    wpList Try.prog ops Q (o :: rest) a w := by
  cases X with
  | some ad => exact wpList_pushXn hgd s x t e ho ht hinfo hzs hsz hby bl w A n c xs (some ad) m cc news hs hown hbl hx hr (fun h => by cases h) h1 hlen h
  | none =>
    have hm : m = 0 := by
      rcases Nat.eq_zero_or_pos m with h0 | h0
      · exact h0
      · obtain ⟨p, hp, _⟩ := hr.look h0; cases hp
    subst hm
    obtain ⟨i0, hi, hz0, hz1, hz2⟩ := info_parts hinfo
    obtain rfl : news = [] := List.eq_nil_of_length_eq_zero (by simpa using hr.len)
    have hrun := run_append_none w bl t o.type e i0 sz ht hi (.slice A n c) n cc xs hown
    refine wpList_plain hgd fun K hK' => ?_
    unfold Oper.wp execOp
    simp only [ho, resolve, invoke, builtin, Sem.run_bind, Sem.run_pure, Result.andThen_ok, List.map_toArray, List.map_cons, List.map_nil, hs, hx, hrun]
    exact hK' _ _ (h A c w (by simpa using hown) (World.grownBy.refl _ _) (.inl rfl))
end Go.Proofs.Ytahmdnboeenfkaa
