/- Plain laws: quarter turns, mirrors and spins of a valid field are valid, undo each other, and keep the sum of the indices. No program stands here. -/
import Derived.Test.YtahmdnboeenfkaaW35
namespace Go.Proofs.Ytahmdnboeenfkaa

theorem sorted_map {ps : List Edg} {φ ψ : Edg → Edg} (hs : ps.Pairwise ltE) (hψ : ∀ e, ψ (φ e) = e) : (sortE (ps.map φ)).Pairwise ltE := by
  have h1 := sortE_le (ps.map φ)
  have h2 : (ps.map φ).Nodup := by
    unfold List.Nodup
    rw [List.pairwise_map]
    refine hs.imp ?_
    intro a b hab e
    have : a = b := by rw [← hψ a, e, hψ b]
    subst this
    exact ltE_irrefl a hab
  have h3 : (sortE (ps.map φ)).Nodup := (sortE_perm _).nodup_iff.2 h2
  refine (h1.and h3).imp ?_
  intro a b ⟨h4, h5⟩
  rcases ltE_total a b with h | h | h
  · exact h
  · exact absurd h h5
  · exact absurd h h4
theorem mem_sortE {ps : List Edg} {e : Edg} : e ∈ sortE ps ↔ e ∈ ps := (sortE_perm ps).mem_iff
theorem mem_map_inv {ps : List Edg} {φ ψ : Edg → Edg} (hψ : ∀ e, ψ (φ e) = e) (e : Edg) : φ e ∈ sortE (ps.map φ) ↔ e ∈ ps := by
  rw [mem_sortE, List.mem_map]
  constructor
  · rintro ⟨a, ha, he⟩
    have : a = e := by rw [← hψ a, he, hψ e]
    rw [← this]; exact ha
  · intro h; exact ⟨e, h, rfl⟩
theorem sortE_map_sortE (φ : Edg → Edg) (l : List Edg) : sortE ((sortE l).map φ) = sortE (l.map φ) := by
  refine sortE_unique ?_ (sortE_le _)
  exact (sortE_perm _).trans ((sortE_perm l).map φ)
theorem trn_map {f g : Fld} {e e' : Edg} (s : Int) (hs : s = 1 ∨ s = -1) (hb : ∃ q, g.bend e' = s * f.bend e + 8 * q) (hm : e' ∈ g.ps ↔ e ∈ f.ps) (h4 : f.trn e ≠ 4) : g.trn e' = s * f.trn e := by
  obtain ⟨q, hq⟩ := hb
  unfold Fld.trn at *
  rw [hq]
  have hp : (if e' ∈ g.ps then (4 : Int) else 0) = if e ∈ f.ps then 4 else 0 := by by_cases h : e ∈ f.ps <;> simp [hm, h]
  rw [hp]
  have hp2 : (if e ∈ f.ps then (4 : Int) else 0) = 0 ∨ (if e ∈ f.ps then (4 : Int) else 0) = 4 := by split <;> simp
  generalize (if e ∈ f.ps then (4 : Int) else 0) = p at *
  generalize f.bend e = b at *
  unfold turnN at *
  rcases hs with rfl | rfl <;> rcases hp2 with rfl | rfl <;> omega
theorem trn_ne {f : Fld} (h : valid f = 0) {e : Edg} (he : isE f.W f.H e = true) : f.trn e ≠ 4 := fun h4 => notsharp_of_valid h ⟨e, mem_edgesP.2 he, h4⟩

/-- Directions told by their number. -/
theorem dir_range {W H N : Int} {G : Nat → Int} {ps : List Edg} {x y : Nat} (h : ((y : Int) * W + (x : Int)) < N) (h0 : 0 ≤ (y : Int) * W) : (⟨W, H, (List.range N.toNat).map G, ps⟩ : Fld).dir x y = G ((y : Int) * W + (x : Int)).toNat := by
  unfold Fld.dir
  simp only [List.getD_eq_getElem?_getD, List.getElem?_map]
  rw [List.getElem?_range (by omega)]
  rfl
theorem fld_ext {f g : Fld} (hf : Okf f) (hg : Okf g) (h1 : f.W = g.W) (h2 : f.H = g.H) (h3 : ∀ x y : Int, 0 ≤ x → x < f.W → 0 ≤ y → y < f.H → f.dir x y = g.dir x y) (h4 : f.ps = g.ps) : f = g := by
  have hd : f.ds = g.ds := by
    have l1 := hf.len
    have l2 := hg.len
    rw [← h1, ← h2] at l2
    apply List.ext_getElem (by omega)
    intro i i1 i2
    have hW := hf.w1
    have hH := hf.h1
    have e1 := Int.mul_ediv_add_emod (i : Int) f.W
    have e2 := Int.emod_nonneg (i : Int) (show f.W ≠ 0 by omega)
    have e3 := Int.emod_lt_of_pos (i : Int) (show 0 < f.W by omega)
    have e4 : 0 ≤ (i : Int) / f.W := Int.ediv_nonneg (by omega) (by omega)
    have e5 : (i : Int) / f.W < f.H := by
      apply Int.ediv_lt_of_lt_mul (by omega)
      rw [Int.mul_comm, ← l1]; omega
    have := h3 _ _ e2 e3 e4 e5
    unfold Fld.dir at this
    rw [← h1, Int.mul_comm, e1] at this
    simp only [Int.toNat_natCast, List.getD_eq_getElem?_getD, List.getElem?_eq_getElem i1, List.getElem?_eq_getElem i2, Option.getD_some] at this
    exact this
  obtain ⟨a, b, c, d⟩ := f
  obtain ⟨a', b', c', d'⟩ := g
  simp only at h1 h2 hd h4
  subst h1 h2 hd h4
  rfl

/-- A sum over the first numbers. -/
def S : Nat → (Nat → Int) → Int
  | 0, _ => 0
  | n + 1, g => S n g + g n
theorem S_congr {n : Nat} {g h : Nat → Int} (e : ∀ i, i < n → g i = h i) : S n g = S n h := by
  induction n with
  | zero => rfl
  | succ n ih => simp only [S]; rw [ih fun i hi => e i (by omega), e n (by omega)]
theorem S_zero (n : Nat) : (S n fun _ => 0) = 0 := by
  induction n with
  | zero => rfl
  | succ n ih => simp only [S]; rw [ih]; rfl
theorem S_add (n : Nat) (g h : Nat → Int) : S n g + S n h = S n fun i => g i + h i := by
  induction n with
  | zero => rfl
  | succ n ih => simp only [S]; rw [← ih]; omega
theorem S_front (n : Nat) (g : Nat → Int) : S (n + 1) g = g 0 + S n fun i => g (i + 1) := by
  induction n with
  | zero => simp [S]
  | succ n ih =>
    show S (n + 1) g + g (n + 1) = g 0 + ((S n fun i => g (i + 1)) + g (n + 1))
    rw [ih]; omega
theorem S_rev (n : Nat) (g : Nat → Int) : S n g = S n fun i => g (n - 1 - i) := by
  induction n generalizing g with
  | zero => rfl
  | succ n ih =>
    rw [S_front, S_front n, ih]
    show g 0 + _ = _
    have h1 : (S n fun i => g (n - 1 - i + 1)) + g 0 = S (n + 1) fun i => g (n - i) := by
      show _ = (S n fun i => g (n - i)) + g (n - n)
      rw [Nat.sub_self, S_congr (g := fun i => g (n - 1 - i + 1)) (h := fun i => g (n - i)) fun i hi => by show g _ = g _; congr 1; omega]
    have h2 : (S (n + 1) fun i => g (n - i)) = g n + S n fun i => g (n - (i + 1)) := S_front n _
    show g 0 + (S n fun i => g (n - 1 - i + 1)) = g (n + 1 - 1 - 0) + S n fun i => g (n + 1 - 1 - (i + 1))
    rw [Int.add_comm, h1, h2]
    rfl
theorem S_swap (n m : Nat) (g : Nat → Nat → Int) : (S n fun i => S m fun j => g i j) = S m fun j => S n fun i => g i j := by
  induction n with
  | zero => simp only [S]; rw [S_zero]
  | succ n ih => simp only [S]; rw [ih, S_add]

def tot (l : List Edg) : Int := (l.map fun e => e.2.2).sum
theorem tot_append (l m : List Edg) : tot (l ++ m) = tot l + tot m := by unfold tot; rw [List.map_append, List.sum_append]
theorem tot_snoc (l : List Edg) (e : Edg) : tot (l ++ [e]) = tot l + e.2.2 := by rw [tot_append]; simp [tot]
theorem tot_wh1 (f : Fld) (x y : Int) : tot (wh1 f x y) = (f.rnd x y).tdiv 4 := by
  unfold wh1
  split
  · rename_i h; rw [h]; rfl
  · simp [tot]
theorem tot_whR (f : Fld) (y : Int) (n : Nat) : tot (whR f y n) = S n fun x => (f.rnd x y).tdiv 4 := by
  induction n with
  | zero => rfl
  | succ n ih => rw [whR_succ, tot_append, ih, tot_wh1]; rfl
theorem tot_whF (f : Fld) (n : Nat) : tot (whF f n) = S n fun y => S (f.W - 1).toNat fun x => (f.rnd x y).tdiv 4 := by
  induction n with
  | zero => rfl
  | succ n ih => rw [whF_succ, tot_append, ih, tot_whR]; rfl
theorem tot_whorls {f : Fld} (h : valid f = 0) : tot (whorls f) = S (f.H - 1).toNat fun y => S (f.W - 1).toNat fun x => (f.rnd x y).tdiv 4 := by
  unfold whorls
  rw [if_pos h, tot_whF]

/-- The quarter turn. -/
def unqE (H : Int) (e : Edg) : Edg := (e.2.1, H - 2 + e.2.2 - e.1, 1 - e.2.2)
theorem unqE_quaE (H : Int) (e : Edg) : unqE H (quaE H e) = e := by
  obtain ⟨x, y, u⟩ := e
  refine Prod.ext ?_ (Prod.ext ?_ ?_)
  all_goals first | rfl | (dsimp only [unqE, quaE]; omega)
theorem quaE_unqE (H : Int) (e : Edg) : quaE H (unqE H e) = e := by
  obtain ⟨x, y, u⟩ := e
  refine Prod.ext ?_ (Prod.ext ?_ ?_)
  all_goals first | rfl | (dsimp only [unqE, quaE]; omega)
theorem isE_qua {W H : Int} {e : Edg} (h : isE W H e = true) : isE H W (quaE H e) = true := by
  unfold isE quaE at *
  rw [decide_eq_true_eq] at *
  simp only
  omega
theorem isE_unq {W H : Int} {e : Edg} (h : isE H W e = true) : isE W H (unqE H e) = true := by
  unfold isE unqE at *
  rw [decide_eq_true_eq] at *
  simp only
  omega
theorem qua_dir {f : Fld} (h : Okf f) (x y : Int) (x0 : 0 ≤ x) (x1 : x < f.H) (y0 : 0 ≤ y) (y1 : y < f.W) : (quaF f).dir x y = (f.dir y (f.H - 1 - x) + 2) % 8 := by
  obtain ⟨a, rfl⟩ := Int.eq_ofNat_of_zero_le x0
  obtain ⟨b, rfl⟩ := Int.eq_ofNat_of_zero_le y0
  obtain ⟨i0, i1, i2, i3, i4⟩ := idx_bd h.h1 h.h2 h.w2 x0 x1 y0 y1
  unfold quaF
  rw [dir_range (by rw [Int.mul_comm f.W]; exact i3) i0]
  obtain ⟨Hn, hH⟩ := Int.eq_ofNat_of_zero_le (show 0 ≤ f.H by omega)
  have e : ((b : Int) * f.H + (a : Int)).toNat = b * Hn + a := by rw [hH]; omega
  rw [e, quaG_at hH (by omega)]
theorem qua_okf {f : Fld} (h : Okf f) : Okf (quaF f) := by
  have hw1 := h.w1
  have hh1 := h.h1
  have h0 : 0 ≤ f.W * f.H := Int.mul_nonneg (by omega) (by omega)
  refine ⟨h.h1, h.h2, h.w1, h.w2, ?_, ?_, ?_, ?_, sorted_map h.sorted (unqE_quaE f.H)⟩
  · show (((List.range (f.W * f.H).toNat).map (quaG f)).length : Int) = f.H * f.W
    rw [List.length_map, List.length_range, Int.mul_comm f.H]; omega
  · intro d hd
    unfold quaF at hd
    simp only [List.mem_map] at hd
    obtain ⟨i, _, rfl⟩ := hd
    unfold quaG
    omega
  · show (sortE _).length ≤ 60
    rw [sortE_length, List.length_map]; exact h.cnt
  · intro e he
    have he' : e ∈ sortE (f.ps.map (quaE f.H)) := he
    rw [mem_sortE, List.mem_map] at he'
    obtain ⟨a, ha, rfl⟩ := he'
    exact isE_qua (h.edge a ha)
theorem qua_trn {f : Fld} (h : valid f = 0) (e : Edg) (he : isE f.W f.H e = true) : (quaF f).trn (quaE f.H e) = (1 - 2 * e.2.2) * f.trn e := by
  have ok := okf_of_valid h
  have h4 := trn_ne h he
  obtain ⟨x, y, u⟩ := e
  unfold isE at he
  rw [decide_eq_true_eq] at he
  simp only at he
  refine trn_map (1 - 2 * u) (by omega) ?_ (mem_map_inv (unqE_quaE f.H) _) h4
  unfold Fld.bend quaE
  simp only
  rcases he with ⟨rfl, a1, a2, a3, a4⟩ | ⟨rfl, a1, a2, a3, a4⟩
  · rw [qua_dir ok _ _ (by omega) (by omega) (by omega) (by omega), qua_dir ok _ _ (by omega) (by omega) (by omega) (by omega)]
    rw [show f.H - 1 - (f.H - 1 - 0 - y + 1 - (1 - 0)) = y by omega, show f.H - 1 - (f.H - 1 - 0 - y) = y by omega, show x + (1 - 0) = x + 1 by omega, show x + 1 - 0 = x + 1 by omega, show y + 0 = y by omega]
    generalize f.dir (x + 1) y = p
    generalize f.dir x y = q
    exact ⟨(q + 2) / 8 - (p + 2) / 8, by omega⟩
  · rw [qua_dir ok _ _ (by omega) (by omega) (by omega) (by omega), qua_dir ok _ _ (by omega) (by omega) (by omega) (by omega)]
    rw [show f.H - 1 - (f.H - 1 - 1 - y + 1 - (1 - 1)) = y by omega, show f.H - 1 - (f.H - 1 - 1 - y) = y + 1 by omega, show x + (1 - 1) = x by omega, show x + 1 - 1 = x by omega]
    generalize f.dir x (y + 1) = p
    generalize f.dir x y = q
    exact ⟨(p + 2) / 8 - (q + 2) / 8, by omega⟩
theorem valid_qua {f : Fld} (h : valid f = 0) : valid (quaF f) = 0 := by
  have ok := okf_of_valid h
  refine valid_of_okf (qua_okf ok) ?_
  rintro ⟨e, he, h4⟩
  have he' : isE f.H f.W e = true := mem_edgesP.1 he
  have hu := isE_unq he'
  rw [← quaE_unqE f.H e, qua_trn h _ hu] at h4
  have hb := trn_bd f (unqE f.H e)
  have hn := trn_ne h hu
  unfold isE at he'
  rw [decide_eq_true_eq] at he'
  have : (unqE f.H e).2.2 = 0 ∨ (unqE f.H e).2.2 = 1 := by show 1 - e.2.2 = 0 ∨ 1 - e.2.2 = 1; omega
  rcases this with e0 | e0 <;> rw [e0] at h4 <;> omega
theorem qua_rnd {f : Fld} (h : valid f = 0) (x y : Int) (x0 : 0 ≤ x) (x1 : x < f.W - 1) (y0 : 0 ≤ y) (y1 : y < f.H - 1) : (quaF f).rnd (f.H - 2 - y) x = f.rnd x y := by
  have t1 := qua_trn h (x, y, 1) (by unfold isE; rw [decide_eq_true_eq]; simp; omega)
  have t2 := qua_trn h (x, y, 0) (by unfold isE; rw [decide_eq_true_eq]; simp; omega)
  have t3 := qua_trn h (x + 1, y, 1) (by unfold isE; rw [decide_eq_true_eq]; simp; omega)
  have t4 := qua_trn h (x, y + 1, 0) (by unfold isE; rw [decide_eq_true_eq]; simp; omega)
  unfold quaE at t1 t2 t3 t4
  simp only at t1 t2 t3 t4
  rw [show f.H - 1 - 1 - y = f.H - 2 - y by omega, show (1 : Int) - 1 = 0 by omega] at t1
  rw [show f.H - 1 - 0 - y = f.H - 2 - y + 1 by omega, show (1 : Int) - 0 = 1 by omega] at t2
  rw [show f.H - 1 - 1 - y = f.H - 2 - y by omega, show (1 : Int) - 1 = 0 by omega] at t3
  rw [show f.H - 1 - 0 - (y + 1) = f.H - 2 - y by omega, show (1 : Int) - 0 = 1 by omega] at t4
  unfold Fld.rnd
  rw [t1, t2, t3, t4]
  omega
theorem tot_qua {f : Fld} (h : valid f = 0) : tot (whorls (quaF f)) = tot (whorls f) := by
  rw [tot_whorls h, tot_whorls (valid_qua h)]
  have ok := okf_of_valid h
  have w1 := ok.w1
  have h1 := ok.h1
  show (S (f.W - 1).toNat fun y => S (f.H - 1).toNat fun x => ((quaF f).rnd x y).tdiv 4) = _
  rw [S_swap (f.H - 1).toNat]
  refine S_congr fun i hi => ?_
  rw [S_rev]
  refine S_congr fun j hj => ?_
  rw [← qua_rnd h (i : Int) (j : Int) (by omega) (by omega) (by omega) (by omega)]
  congr 2
  omega
theorem qua_four {f : Fld} (h : valid f = 0) : quaF (quaF (quaF (quaF f))) = f := by
  have ok := okf_of_valid h
  have o1 := qua_okf ok
  have o2 := qua_okf o1
  have o3 := qua_okf o2
  have o4 := qua_okf o3
  refine fld_ext o4 ok rfl rfl ?_ ?_
  · intro x y x0 x1 y0 y1
    have x1' : x < f.W := x1
    have y1' : y < f.H := y1
    have hd := dir_bd ok x y x0 x1' y0 y1'
    rw [qua_dir o3 x y x0 x1 y0 y1]
    rw [qua_dir o2 y _ y0 y1 (by show 0 ≤ f.W - 1 - x; omega) (by show f.W - 1 - x < f.W; omega)]
    rw [qua_dir o1 _ _ (by show 0 ≤ f.W - 1 - x; omega) (by show f.W - 1 - x < f.W; omega) (by show 0 ≤ f.H - 1 - y; omega) (by show f.H - 1 - y < f.H; omega)]
    rw [qua_dir ok _ _ (by show 0 ≤ f.H - 1 - y; omega) (by show f.H - 1 - y < f.H; omega) (by show 0 ≤ f.W - 1 - (f.W - 1 - x); omega) (by show f.W - 1 - (f.W - 1 - x) < f.W; omega)]
    show ((((f.dir (f.W - 1 - (f.W - 1 - x)) (f.H - 1 - (f.H - 1 - y)) + 2) % 8 + 2) % 8 + 2) % 8 + 2) % 8 = f.dir x y
    rw [show f.W - 1 - (f.W - 1 - x) = x by omega, show f.H - 1 - (f.H - 1 - y) = y by omega]
    omega
  · show sortE ((sortE ((sortE ((sortE (f.ps.map (quaE f.H))).map (quaE f.W))).map (quaE f.H))).map (quaE f.W)) = f.ps
    rw [sortE_map_sortE, List.map_map, sortE_map_sortE, List.map_map, sortE_map_sortE, List.map_map]
    have e : ∀ e : Edg, quaE f.W (quaE f.H (quaE f.W (quaE f.H e))) = e := by
      rintro ⟨x, y, u⟩
      refine Prod.ext ?_ (Prod.ext ?_ ?_)
      all_goals first | rfl | (dsimp only [quaE]; omega)
    rw [show (((quaE f.W ∘ quaE f.H) ∘ quaE f.W) ∘ quaE f.H) = id from funext e, List.map_id, sortE_of_lt ok.sorted]

/-- The mirror. -/
theorem mirE_mirE (W : Int) (e : Edg) : mirE W (mirE W e) = e := by
  obtain ⟨x, y, u⟩ := e
  refine Prod.ext ?_ (Prod.ext ?_ ?_)
  all_goals first | rfl | (dsimp only [mirE]; omega)
theorem isE_mir {W H : Int} {e : Edg} (h : isE W H e = true) : isE W H (mirE W e) = true := by
  unfold isE mirE at *
  rw [decide_eq_true_eq] at *
  simp only
  omega
theorem mir_dir {f : Fld} (h : Okf f) (x y : Int) (x0 : 0 ≤ x) (x1 : x < f.W) (y0 : 0 ≤ y) (y1 : y < f.H) : (mirF f).dir x y = (4 - f.dir (f.W - 1 - x) y) % 8 := by
  obtain ⟨a, rfl⟩ := Int.eq_ofNat_of_zero_le x0
  obtain ⟨b, rfl⟩ := Int.eq_ofNat_of_zero_le y0
  obtain ⟨i0, i1, i2, i3, i4⟩ := idx_bd h.w1 h.w2 h.h2 x0 x1 y0 y1
  unfold mirF
  rw [dir_range i3 i0]
  obtain ⟨Wn, hW⟩ := Int.eq_ofNat_of_zero_le (show 0 ≤ f.W by omega)
  have e : ((b : Int) * f.W + (a : Int)).toNat = b * Wn + a := by rw [hW]; omega
  rw [e, mirG_at hW (by omega)]
theorem mir_okf {f : Fld} (h : Okf f) : Okf (mirF f) := by
  have hw1 := h.w1
  have hh1 := h.h1
  have h0 : 0 ≤ f.W * f.H := Int.mul_nonneg (by omega) (by omega)
  refine ⟨h.w1, h.w2, h.h1, h.h2, ?_, ?_, ?_, ?_, sorted_map h.sorted (mirE_mirE f.W)⟩
  · show (((List.range (f.W * f.H).toNat).map (mirG f)).length : Int) = f.W * f.H
    rw [List.length_map, List.length_range]; omega
  · intro d hd
    unfold mirF at hd
    simp only [List.mem_map] at hd
    obtain ⟨i, _, rfl⟩ := hd
    unfold mirG
    omega
  · show (sortE _).length ≤ 60
    rw [sortE_length, List.length_map]; exact h.cnt
  · intro e he
    have he' : e ∈ sortE (f.ps.map (mirE f.W)) := he
    rw [mem_sortE, List.mem_map] at he'
    obtain ⟨a, ha, rfl⟩ := he'
    exact isE_mir (h.edge a ha)
theorem mir_trn {f : Fld} (h : valid f = 0) (e : Edg) (he : isE f.W f.H e = true) : (mirF f).trn (mirE f.W e) = (1 - 2 * e.2.2) * f.trn e := by
  have ok := okf_of_valid h
  have h4 := trn_ne h he
  obtain ⟨x, y, u⟩ := e
  unfold isE at he
  rw [decide_eq_true_eq] at he
  simp only at he
  refine trn_map (1 - 2 * u) (by omega) ?_ (mem_map_inv (mirE_mirE f.W) _) h4
  unfold Fld.bend mirE
  simp only
  rcases he with ⟨rfl, a1, a2, a3, a4⟩ | ⟨rfl, a1, a2, a3, a4⟩
  · rw [mir_dir ok _ _ (by omega) (by omega) (by omega) (by omega), mir_dir ok _ _ (by omega) (by omega) (by omega) (by omega)]
    rw [show f.W - 1 - (f.W - 2 + 0 - x + 1 - 0) = x by omega, show f.W - 1 - (f.W - 2 + 0 - x) = x + 1 by omega, show x + 1 - 0 = x + 1 by omega, show y + 0 = y by omega]
    generalize f.dir (x + 1) y = p
    generalize f.dir x y = q
    exact ⟨(4 - p) / 8 - (4 - q) / 8, by omega⟩
  · rw [mir_dir ok _ _ (by omega) (by omega) (by omega) (by omega), mir_dir ok _ _ (by omega) (by omega) (by omega) (by omega)]
    rw [show f.W - 1 - (f.W - 2 + 1 - x + 1 - 1) = x by omega, show f.W - 1 - (f.W - 2 + 1 - x) = x by omega, show x + 1 - 1 = x by omega]
    generalize f.dir x (y + 1) = p
    generalize f.dir x y = q
    exact ⟨(4 - q) / 8 - (4 - p) / 8, by omega⟩
theorem valid_mir {f : Fld} (h : valid f = 0) : valid (mirF f) = 0 := by
  have ok := okf_of_valid h
  refine valid_of_okf (mir_okf ok) ?_
  rintro ⟨e, he, h4⟩
  have he' : isE f.W f.H e = true := mem_edgesP.1 he
  have hu := isE_mir he'
  rw [← mirE_mirE f.W e, mir_trn h _ hu] at h4
  have hb := trn_bd f (mirE f.W e)
  have hn := trn_ne h hu
  unfold isE at he'
  rw [decide_eq_true_eq] at he'
  have : (mirE f.W e).2.2 = 0 ∨ (mirE f.W e).2.2 = 1 := by show e.2.2 = 0 ∨ e.2.2 = 1; omega
  rcases this with e0 | e0 <;> rw [e0] at h4 <;> omega
theorem mir_rnd {f : Fld} (h : valid f = 0) (x y : Int) (x0 : 0 ≤ x) (x1 : x < f.W - 1) (y0 : 0 ≤ y) (y1 : y < f.H - 1) : (mirF f).rnd (f.W - 2 - x) y = f.rnd x y := by
  have t1 := mir_trn h (x, y, 1) (by unfold isE; rw [decide_eq_true_eq]; simp; omega)
  have t2 := mir_trn h (x, y, 0) (by unfold isE; rw [decide_eq_true_eq]; simp; omega)
  have t3 := mir_trn h (x + 1, y, 1) (by unfold isE; rw [decide_eq_true_eq]; simp; omega)
  have t4 := mir_trn h (x, y + 1, 0) (by unfold isE; rw [decide_eq_true_eq]; simp; omega)
  unfold mirE at t1 t2 t3 t4
  simp only at t1 t2 t3 t4
  rw [show f.W - 2 + 1 - x = f.W - 2 - x + 1 by omega] at t1
  rw [show f.W - 2 + 0 - x = f.W - 2 - x by omega] at t2
  rw [show f.W - 2 + 1 - (x + 1) = f.W - 2 - x by omega] at t3
  rw [show f.W - 2 + 0 - x = f.W - 2 - x by omega] at t4
  unfold Fld.rnd
  rw [t1, t2, t3, t4]
  omega
theorem tot_mir {f : Fld} (h : valid f = 0) : tot (whorls (mirF f)) = tot (whorls f) := by
  rw [tot_whorls h, tot_whorls (valid_mir h)]
  have ok := okf_of_valid h
  have w1 := ok.w1
  have h1 := ok.h1
  show (S (f.H - 1).toNat fun y => S (f.W - 1).toNat fun x => ((mirF f).rnd x y).tdiv 4) = _
  refine S_congr fun j hj => ?_
  rw [S_rev]
  refine S_congr fun i hi => ?_
  rw [← mir_rnd h (i : Int) (j : Int) (by omega) (by omega) (by omega) (by omega)]
  congr 2
  omega
theorem mir_two {f : Fld} (h : valid f = 0) : mirF (mirF f) = f := by
  have ok := okf_of_valid h
  have o1 := mir_okf ok
  have o2 := mir_okf o1
  refine fld_ext o2 ok rfl rfl ?_ ?_
  · intro x y x0 x1 y0 y1
    have x1' : x < f.W := x1
    have y1' : y < f.H := y1
    have hd := dir_bd ok x y x0 x1' y0 y1'
    rw [mir_dir o1 x y x0 x1 y0 y1]
    rw [mir_dir ok _ _ (by show 0 ≤ f.W - 1 - x; omega) (by show f.W - 1 - x < f.W; omega) y0 y1']
    show (4 - (4 - f.dir (f.W - 1 - (f.W - 1 - x)) y) % 8) % 8 = f.dir x y
    rw [show f.W - 1 - (f.W - 1 - x) = x by omega]
    omega
  · show sortE ((sortE (f.ps.map (mirE f.W))).map (mirE f.W)) = f.ps
    rw [sortE_map_sortE, List.map_map, show (mirE f.W ∘ mirE f.W) = id from funext fun e => mirE_mirE f.W e, List.map_id, sortE_of_lt ok.sorted]

/-- The spin. -/
theorem spin_rnd {f : Fld} (h : valid f = 0) (k x y : Int) (x0 : 0 ≤ x) (x1 : x < f.W - 1) (y0 : 0 ≤ y) (y1 : y < f.H - 1) : (spinF f k).rnd x y = f.rnd x y := by
  have ok := okf_of_valid h
  unfold Fld.rnd
  rw [spin_trn ok k _ (by unfold isE; rw [decide_eq_true_eq]; simp; omega), spin_trn ok k _ (by unfold isE; rw [decide_eq_true_eq]; simp; omega), spin_trn ok k _ (by unfold isE; rw [decide_eq_true_eq]; simp; omega), spin_trn ok k _ (by unfold isE; rw [decide_eq_true_eq]; simp; omega)]
theorem tot_spin {f : Fld} (h : valid f = 0) (k : Int) : tot (whorls (spinF f k)) = tot (whorls f) := by
  rw [tot_whorls h, tot_whorls (valid_spin h k)]
  have ok := okf_of_valid h
  show (S (f.H - 1).toNat fun y => S (f.W - 1).toNat fun x => ((spinF f k).rnd x y).tdiv 4) = _
  refine S_congr fun j hj => S_congr fun i hi => ?_
  rw [spin_rnd h k _ _ (by omega) (by omega) (by omega) (by omega)]
theorem spin_back {f : Fld} (h : valid f = 0) (k : Int) : spinF (spinF f k) (-k) = f := by
  have ok := okf_of_valid h
  unfold spinF
  obtain ⟨W, H, ds, ps⟩ := f
  have hd := ok.dir
  simp only at hd ⊢
  congr 1
  rw [List.map_map]
  conv => rhs; rw [← List.map_id ds]
  refine List.map_congr_left fun d hm => ?_
  have := hd d hm
  show ((d + k) % 8 + -k) % 8 = d
  omega
end Go.Proofs.Ytahmdnboeenfkaa
