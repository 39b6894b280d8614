/- The law TopWhorls, plain and walked. -/
import Derived.Test.YtahmdnboeenfkaaGd
import Derived.Test.YtahmdnboeenfkaaPl5
import Derived.Test.YtahmdnboeenfkaaPl6
import Derived.Test.YtahmdnboeenfkaaW14
import Derived.Test.YtahmdnboeenfkaaBe
import Derived.Test.YtahmdnboeenfkaaGb
namespace Go.Proofs.Ytahmdnboeenfkaa

theorem S_sub (n : Nat) (g h : Nat → Int) : S n g - S n h = S n fun i => g i - h i := by
  induction n with
  | zero => rfl
  | succ n ih => simp only [S]; rw [← ih]; omega
theorem S_neg (n : Nat) (g : Nat → Int) : -S n g = S n fun i => -g i := by
  induction n with
  | zero => rfl
  | succ n ih => simp only [S]; rw [← ih]; omega
theorem S_split (m n : Nat) (g : Nat → Int) : S (m + n) g = S m g + S n fun i => g (m + i) := by
  induction n with
  | zero => simp [S]
  | succ n ih => rw [← Nat.add_assoc]; simp only [S]; rw [ih]; omega
theorem S_tele (n : Nat) (g : Nat → Int) : (S n fun i => g (i + 1) - g i) = g n - g 0 := by
  induction n with
  | zero => simp [S]
  | succ n ih => simp only [S]; rw [ih]; omega
theorem lsum_map (g : Plc → Int) (h : Nat → Plc) (n : Nat) : lsum g ((List.range n).map h) = S n fun i => g (h i) := by
  induction n with
  | zero => rfl
  | succ n ih => rw [List.range_succ, List.map_append, lsum_append, ih]; simp [lsum, S]
theorem lsum_flat (g : Plc → Int) (h : Nat → List Plc) (n : Nat) : lsum g ((List.range n).flatMap h) = S n fun i => lsum g (h i) := by
  induction n with
  | zero => rfl
  | succ n ih => rw [List.range_succ, List.flatMap_append, lsum_append, ih]; simp [S]
/-- What turns around all squares of a rectangle turns around the rectangle. -/
theorem green (a b : Nat → Nat → Int) (w h : Nat) : (S h fun v => S w fun u => a u v + b (u + 1) v - a u (v + 1) - b u v) = (S w fun u => a u 0) + (S h fun v => b w v) - (S w fun u => a u h) - (S h fun v => b 0 v) := by
  have h1 : (S h fun v => S w fun u => a u v + b (u + 1) v - a u (v + 1) - b u v) = (S h fun v => (S w fun u => b (u + 1) v - b u v) - S w fun u => a u (v + 1) - a u v) := by
    refine S_congr fun v _ => ?_
    rw [S_sub]
    exact S_congr fun u _ => by omega
  rw [h1, ← S_sub, S_swap h w fun v u => a u (v + 1) - a u v]
  have h2 : (S w fun j => S h fun i => a j (i + 1) - a j i) = S w fun j => a j h - a j 0 := S_congr fun j _ => S_tele h (a j)
  have h3 : (S h fun i => S w fun u => b (u + 1) i - b u i) = S h fun i => b w i - b 0 i := S_congr fun i _ => S_tele w fun u => b u i
  rw [h2, h3, ← S_sub, ← S_sub]
  have q : ∀ p1 p2 p3 p4 : Int, (p2 - p4) - (p3 - p1) = p1 + p2 - p3 - p4 := by intros; omega
  exact q _ _ _ _
theorem ws_range (f : Fld) (g : Nat → Plc) (n : Nat) : ws f ((List.range (n + 1)).map g) = S n fun i => (stepF f (g i) (g (i + 1))).1 := by
  induction n with
  | zero => rfl
  | succ n ih =>
    have e : (List.range (n + 1 + 1)).map g = (List.range n).map g ++ g n :: [g (n + 1)] := by simp [List.range_succ]
    rw [e, ws_append]
    have e2 : (List.range n).map g ++ [g n] = (List.range (n + 1)).map g := by simp [List.range_succ]
    rw [e2, ih]
    simp [S, ws]
theorem wk_range (f : Fld) (g : Nat → Plc) (n : Nat) (h : ∀ i, i < n → (stepF f (g i) (g (i + 1))).2 = true) : wk f ((List.range (n + 1)).map g) = true := by
  induction n with
  | zero => rfl
  | succ n ih =>
    have e : (List.range (n + 1 + 1)).map g = (List.range n).map g ++ g n :: [g (n + 1)] := by simp [List.range_succ]
    rw [e, wk_append]
    have e2 : (List.range n).map g ++ [g n] = (List.range (n + 1)).map g := by simp [List.range_succ]
    rw [e2, ih fun i hi => h i (by omega)]
    have := h n (by omega)
    simp [wk, this]

/-- The squares of a rectangle. -/
def allR (x y : Int) (v : Int) (n : Nat) : List Plc := (List.range n).map fun (u : Nat) => (x + (u : Int), y + v)
def allL (x y : Int) (w h : Nat) : List Plc := (List.range h).flatMap fun (v : Nat) => allR x y (v : Int) w
/-- The path around a rectangle of W times H places. -/
def rp (x y W H : Int) (k : Nat) : Plc :=
  if (k : Int) < W then (x + (k : Int), y) else if (k : Int) < W + (H - 1) then (x + W - 1, y + ((k : Int) - W + 1))
  else if (k : Int) < 2 * W + H - 2 then (x + (2 * W + H - 3 - (k : Int)), y + H - 1) else (x, y + (2 * W + 2 * H - 4 - (k : Int)))
def rpL (x y W H : Int) (k : Nat) : List Plc := (List.range k).map (rp x y W H)
theorem rpL_succ (x y W H : Int) (k : Nat) : rpL x y W H (k + 1) = rpL x y W H k ++ [rp x y W H k] := by simp [rpL, List.range_succ]
section
variable {f : Fld} {x y : Int} {W H : Nat}
theorem rp_step (hW : 2 ≤ W) (hH : 2 ≤ H) :
    (∀ k, k < W - 1 → stepF f (rp x y W H k) (rp x y W H (k + 1)) = (f.trn (x + (k : Int), y, 0), true)) ∧
    (∀ k, k < H - 1 → stepF f (rp x y W H (W - 1 + k)) (rp x y W H (W - 1 + k + 1)) = (f.trn (x + ((W - 1 : Nat) : Int), y + (k : Int), 1), true)) ∧
    (∀ k, k < W - 1 → stepF f (rp x y W H (W - 1 + (H - 1) + k)) (rp x y W H (W - 1 + (H - 1) + k + 1)) = (-f.trn (x + ((W - 1 - 1 - k : Nat) : Int), y + ((H - 1 : Nat) : Int), 0), true)) ∧
    (∀ k, k < H - 1 → stepF f (rp x y W H (W - 1 + (H - 1) + (W - 1) + k)) (rp x y W H (W - 1 + (H - 1) + (W - 1) + k + 1)) = (-f.trn (x, y + ((H - 1 - 1 - k : Nat) : Int), 1), true)) := by
  have s0 : ∀ p q : Plc, q.1 = p.1 + 1 ∧ q.2 = p.2 → stepF f p q = (f.trn (p.1, p.2, 0), true) := fun p q h => by unfold stepF; rw [if_pos h]
  have s1 : ∀ p q : Plc, q.1 = p.1 ∧ q.2 = p.2 + 1 → stepF f p q = (f.trn (p.1, p.2, 1), true) := fun p q h => by unfold stepF; rw [if_neg (by omega), if_neg (by omega), if_pos h]
  have s2 : ∀ p q : Plc, q.1 = p.1 - 1 ∧ q.2 = p.2 → stepF f p q = (-f.trn (q.1, q.2, 0), true) := fun p q h => by unfold stepF; rw [if_neg (by omega), if_pos h]
  have s3 : ∀ p q : Plc, q.1 = p.1 ∧ q.2 = p.2 - 1 → stepF f p q = (-f.trn (q.1, q.2, 1), true) := fun p q h => by unfold stepF; rw [if_neg (by omega), if_neg (by omega), if_neg (by omega), if_pos h]
  refine ⟨fun k hk => ?_, fun k hk => ?_, fun k hk => ?_, fun k hk => ?_⟩
  · have e1 : rp x y W H k = (x + (k : Int), y) := by unfold rp; rw [if_pos (by omega)]
    have e2 : rp x y W H (k + 1) = (x + (k : Int) + 1, y) := by unfold rp; rw [if_pos (by omega)]; exact Prod.ext (by show x + ((k + 1 : Nat) : Int) = _; omega) rfl
    rw [e1, e2]; exact s0 _ _ ⟨rfl, rfl⟩
  · have e1 : rp x y W H (W - 1 + k) = (x + ((W - 1 : Nat) : Int), y + (k : Int)) := by
      unfold rp
      by_cases h : k = 0
      · subst h; rw [if_pos (by omega)]; exact Prod.ext (by show x + ((W - 1 + 0 : Nat) : Int) = _; omega) (by show y = y + ((0 : Nat) : Int); omega)
      · rw [if_neg (by omega), if_pos (by omega)]; exact Prod.ext (by show x + (W : Int) - 1 = _; omega) (by show y + (((W - 1 + k : Nat) : Int) - (W : Int) + 1) = _; omega)
    have e2 : rp x y W H (W - 1 + k + 1) = (x + ((W - 1 : Nat) : Int), y + (k : Int) + 1) := by
      unfold rp; rw [if_neg (by omega), if_pos (by omega)]; exact Prod.ext (by show x + (W : Int) - 1 = _; omega) (by show y + (((W - 1 + k + 1 : Nat) : Int) - (W : Int) + 1) = _; omega)
    rw [e1, e2]; exact s1 _ _ ⟨rfl, rfl⟩
  · have e1 : rp x y W H (W - 1 + (H - 1) + k) = (x + ((W - 1 - 1 - k : Nat) : Int) + 1, y + ((H - 1 : Nat) : Int)) := by
      unfold rp
      by_cases h : k = 0
      · subst h; rw [if_neg (by omega), if_pos (by omega)]; exact Prod.ext (by show x + (W : Int) - 1 = _; omega) (by show y + (((W - 1 + (H - 1) + 0 : Nat) : Int) - (W : Int) + 1) = _; omega)
      · rw [if_neg (by omega), if_neg (by omega), if_pos (by omega)]; exact Prod.ext (by show x + (2 * (W : Int) + (H : Int) - 3 - ((W - 1 + (H - 1) + k : Nat) : Int)) = _; omega) (by show y + (H : Int) - 1 = _; omega)
    have e2 : rp x y W H (W - 1 + (H - 1) + k + 1) = (x + ((W - 1 - 1 - k : Nat) : Int), y + ((H - 1 : Nat) : Int)) := by
      unfold rp; rw [if_neg (by omega), if_neg (by omega), if_pos (by omega)]; exact Prod.ext (by show x + (2 * (W : Int) + (H : Int) - 3 - ((W - 1 + (H - 1) + k + 1 : Nat) : Int)) = _; omega) (by show y + (H : Int) - 1 = _; omega)
    rw [e1, e2]; exact s2 _ _ ⟨by show _ = _ + 1 - 1; omega, rfl⟩
  · have e1 : rp x y W H (W - 1 + (H - 1) + (W - 1) + k) = (x, y + ((H - 1 - 1 - k : Nat) : Int) + 1) := by
      unfold rp
      by_cases h : k = 0
      · subst h; rw [if_neg (by omega), if_neg (by omega), if_pos (by omega)]; exact Prod.ext (by show x + (2 * (W : Int) + (H : Int) - 3 - ((W - 1 + (H - 1) + (W - 1) + 0 : Nat) : Int)) = _; omega) (by show y + (H : Int) - 1 = _; omega)
      · rw [if_neg (by omega), if_neg (by omega), if_neg (by omega)]; exact Prod.ext rfl (by show y + (2 * (W : Int) + 2 * (H : Int) - 4 - ((W - 1 + (H - 1) + (W - 1) + k : Nat) : Int)) = _; omega)
    have e2 : rp x y W H (W - 1 + (H - 1) + (W - 1) + k + 1) = (x, y + ((H - 1 - 1 - k : Nat) : Int)) := by
      unfold rp; rw [if_neg (by omega), if_neg (by omega), if_neg (by omega)]; exact Prod.ext rfl (by show y + (2 * (W : Int) + 2 * (H : Int) - 4 - ((W - 1 + (H - 1) + (W - 1) + k + 1 : Nat) : Int)) = _; omega)
    rw [e1, e2]; exact s3 _ _ ⟨rfl, by show _ = _ + 1 - 1; omega⟩
theorem rp_walks (hv : valid f = 0) (hc : cropOk f x y (W : Int) (H : Int)) (hW : 2 ≤ W) (hH : 2 ≤ H) : walkR f (rpL x y W H (W - 1 + (H - 1) + (W - 1) + (H - 1) + 1)) = (rnds f (allL x y (W - 1) (H - 1)), 0) := by
  have ok := okf_of_valid hv
  have o1 := ok.w2
  have o2 := ok.h2
  obtain ⟨c1, c2, c3, c4, c5, c6⟩ := hc
  obtain ⟨r1, r2, r3, r4⟩ := rp_step (f := f) (x := x) (y := y) hW hH
  have hk : Walks f (rpL x y W H (W - 1 + (H - 1) + (W - 1) + (H - 1) + 1)) := by
    refine ⟨hv, by unfold rpL; rw [List.length_map, List.length_range]; omega, fun q hq => ?_, ?_⟩
    · unfold rpL at hq
      rw [List.mem_map] at hq
      obtain ⟨k, hk, rfl⟩ := hq
      rw [List.mem_range] at hk
      unfold isPl isP
      rw [decide_eq_true_eq]
      unfold rp
      repeat' split
      all_goals (simp only; omega)
    · unfold rpL
      refine wk_range f _ _ fun i hi => ?_
      rcases Nat.lt_or_ge i (W - 1) with h | h
      · rw [r1 i h]
      · obtain ⟨j, rfl⟩ : ∃ j, i = W - 1 + j := ⟨i - (W - 1), by omega⟩
        rcases Nat.lt_or_ge j (H - 1) with h2 | h2
        · rw [r2 j h2]
        · obtain ⟨k, rfl⟩ : ∃ k, j = H - 1 + k := ⟨j - (H - 1), by omega⟩
          rw [← Nat.add_assoc]
          rcases Nat.lt_or_ge k (W - 1) with h3 | h3
          · rw [r3 k h3]
          · obtain ⟨l, rfl⟩ : ∃ l, k = W - 1 + l := ⟨k - (W - 1), by omega⟩
            rw [← Nat.add_assoc, r4 l (by omega)]
  rw [walkR_of hk]
  congr 1
  unfold rpL
  rw [ws_range, S_split, S_split, S_split]
  have g := green (fun u v => f.trn (x + (u : Int), y + (v : Int), 0)) (fun u v => f.trn (x + (u : Int), y + (v : Int), 1)) (W - 1) (H - 1)
  have e1 : (S (W - 1) fun i => (stepF f (rp x y W H i) (rp x y W H (i + 1))).1) = S (W - 1) fun u => f.trn (x + (u : Int), y + ((0 : Nat) : Int), 0) := S_congr fun i hi => by rw [r1 i hi]; simp
  have e2 : (S (H - 1) fun i => (stepF f (rp x y W H (W - 1 + i)) (rp x y W H (W - 1 + i + 1))).1) = S (H - 1) fun v => f.trn (x + ((W - 1 : Nat) : Int), y + (v : Int), 1) := S_congr fun i hi => by rw [r2 i hi]
  have e3 : (S (W - 1) fun i => (stepF f (rp x y W H (W - 1 + (H - 1) + i)) (rp x y W H (W - 1 + (H - 1) + i + 1))).1) = -S (W - 1) fun u => f.trn (x + (u : Int), y + ((H - 1 : Nat) : Int), 0) := by
    rw [S_rev (W - 1) fun u => f.trn (x + (u : Int), y + ((H - 1 : Nat) : Int), 0), S_neg]
    exact S_congr fun i hi => by rw [r3 i hi]
  have e4 : (S (H - 1) fun i => (stepF f (rp x y W H (W - 1 + (H - 1) + (W - 1) + i)) (rp x y W H (W - 1 + (H - 1) + (W - 1) + i + 1))).1) = -S (H - 1) fun v => f.trn (x + ((0 : Nat) : Int), y + (v : Int), 1) := by
    rw [S_rev (H - 1) fun v => f.trn (x + ((0 : Nat) : Int), y + (v : Int), 1), S_neg]
    exact S_congr fun i hi => by rw [r4 i hi]; simp
  rw [e1, e2, e3, e4]
  have e5 : rnds f (allL x y (W - 1) (H - 1)) = S (H - 1) fun v => S (W - 1) fun u => f.trn (x + (u : Int), y + (v : Int), 0) + f.trn (x + ((u + 1 : Nat) : Int), y + (v : Int), 1) - f.trn (x + (u : Int), y + ((v + 1 : Nat) : Int), 0) - f.trn (x + (u : Int), y + (v : Int), 1) := by
    unfold rnds allL allR
    rw [lsum_flat]
    refine S_congr fun v _ => ?_
    rw [lsum_map]
    refine S_congr fun u _ => ?_
    unfold Fld.rnd
    simp only
    rw [show x + ((u + 1 : Nat) : Int) = x + (u : Int) + 1 by omega, show y + ((v + 1 : Nat) : Int) = y + (v : Int) + 1 by omega]
  rw [e5, g]
  omega
theorem all_mem {p : Plc} {w h : Nat} (hp : p ∈ allL x y w h) : ∃ u v : Nat, u < w ∧ v < h ∧ p = (x + (u : Int), y + (v : Int)) := by
  unfold allL allR at hp
  rw [List.mem_flatMap] at hp
  obtain ⟨v, hv, hp⟩ := hp
  rw [List.mem_map] at hp
  obtain ⟨u, hu, rfl⟩ := hp
  exact ⟨u, v, List.mem_range.1 hu, List.mem_range.1 hv, rfl⟩
theorem all_nodup (w h : Nat) : (allL x y w h).Nodup := by
  unfold allL
  refine nodup_flatMap _ h (fun v => ?_) fun i j a hij h1 h2 => ?_
  · unfold allR List.Nodup
    rw [List.pairwise_map]
    refine List.Pairwise.imp ?_ (List.nodup_range (n := w))
    intro a b hab e
    exact hab (by have := congrArg Prod.fst e; simp only at this; omega)
  · unfold allR at h1 h2
    rw [List.mem_map] at h1 h2
    obtain ⟨u, _, rfl⟩ := h1
    obtain ⟨u', _, e⟩ := h2
    have := congrArg Prod.snd e
    simp only at this
    omega
theorem all_ins (hv : valid f = 0) (hc : cropOk f x y (W : Int) (H : Int)) : insR f (allL x y (W - 1) (H - 1)) = (inP f (allL x y (W - 1) (H - 1)), 0) := by
  obtain ⟨c1, c2, c3, c4, c5, c6⟩ := hc
  have h1 : regE f (allL x y (W - 1) (H - 1)) = 0 := by
    unfold regE
    rw [if_neg (by simpa using hv), if_neg, if_neg]
    · exact fun h => h (all_nodup _ _)
    · intro h
      refine h fun p hp => ?_
      obtain ⟨u, v, hu, hv', rfl⟩ := all_mem hp
      unfold isS
      rw [decide_eq_true_eq]
      simp only
      omega
  unfold insR
  rw [if_neg (by simpa using h1)]
theorem crop_trn (ho : Okf f) (hc : cropOk f x y (W : Int) (H : Int)) {e : Edg} (he : isE W H e = true) : (cropF f x y W H).trn e = f.trn (shE x y e) := by
  obtain ⟨i, j, u⟩ := e
  have he' := he
  unfold isE at he
  rw [decide_eq_true_eq] at he
  simp only at he
  have hm : (i, j, u) ∈ (cropF f x y W H).ps ↔ shE x y (i, j, u) ∈ f.ps := by
    show (i, j, u) ∈ (f.ps.map (shE (-x) (-y))).filter (fun e => isE (W : Int) (H : Int) e) ↔ _
    rw [List.mem_filter, List.mem_map]
    constructor
    · rintro ⟨⟨a, ha, e⟩, _⟩
      rw [← e, shE_shE, show -x + x = 0 by omega, show -y + y = 0 by omega, shE_zero]
      exact ha
    · intro h
      refine ⟨⟨_, h, ?_⟩, he'⟩
      rw [shE_shE, show x + -x = 0 by omega, show y + -y = 0 by omega, shE_zero]
  unfold Fld.trn
  congr 1
  have h1 : (if (i, j, u) ∈ (cropF f x y W H).ps then (4 : Int) else 0) = if shE x y (i, j, u) ∈ f.ps then 4 else 0 := by
    by_cases h : shE x y (i, j, u) ∈ f.ps
    · rw [if_pos h, if_pos (hm.2 h)]
    · rw [if_neg h, if_neg (fun h' => h (hm.1 h'))]
  rw [h1]
  congr 1
  unfold Fld.bend shE
  simp only
  rw [crop_dir ho hc _ _ (by omega) (by omega) (by omega) (by omega), crop_dir ho hc _ _ (by omega) (by omega) (by omega) (by omega)]
  rw [show x + (i + 1 - u) = i + x + 1 - u by omega, show y + (j + u) = j + y + u by omega, Int.add_comm x i, Int.add_comm y j]
theorem crop_sum (hv : valid f = 0) (hc : cropOk f x y (W : Int) (H : Int)) (hp : valid (cropF f x y W H) = 0) : tot (whorls (cropF f x y W H)) = inP f (allL x y (W - 1) (H - 1)) := by
  have ok := okf_of_valid hv
  rw [tot_whorls hp]
  unfold inP allL allR
  rw [lsum_flat]
  show (S ((H : Int) - 1).toNat fun b => S ((W : Int) - 1).toNat fun a => ((cropF f x y W H).rnd a b).tdiv 4) = _
  rw [show ((H : Int) - 1).toNat = H - 1 by omega, show ((W : Int) - 1).toNat = W - 1 by omega]
  refine S_congr fun v hv => ?_
  rw [lsum_map]
  refine S_congr fun u hu => ?_
  congr 1
  unfold Fld.rnd
  rw [crop_trn ok hc (by unfold isE; rw [decide_eq_true_eq]; simp; omega), crop_trn ok hc (by unfold isE; rw [decide_eq_true_eq]; simp; omega), crop_trn ok hc (by unfold isE; rw [decide_eq_true_eq]; simp; omega), crop_trn ok hc (by unfold isE; rw [decide_eq_true_eq]; simp; omega)]
  unfold shE
  simp only
  rw [show (u : Int) + 1 + x = x + (u : Int) + 1 by omega, show (v : Int) + 1 + y = y + (v : Int) + 1 by omega, Int.add_comm (u : Int) x, Int.add_comm (v : Int) y]
end
end Go.Proofs.Ytahmdnboeenfkaa

namespace Go.Proofs.Ytahmdnboeenfkaa
open Go.RowKit Go.Sort

theorem whorls_len (f : Fld) : (whorls f).length ≤ 144 := by
  unfold whorls
  split
  · rename_i hz
    have hk := okf_of_valid hz
    have := whF_le f (f.H - 1).toNat hk.w2
    have := hk.h2
    omega
  · simp
theorem tot_take_succ {l : List Edg} {k : Nat} {e : Edg} (h : l[k]? = some e) : tot (l.take (k + 1)) = tot (l.take k) + e.2.2 := by
  rw [take_succ_of h, tot_snoc]
theorem tot_bd {l : List Edg} (h : ∀ e ∈ l, -4 ≤ e.2.2 ∧ e.2.2 ≤ 4) : -(4 * (l.length : Int)) ≤ tot l ∧ tot l ≤ 4 * (l.length : Int) := by
  induction l with
  | nil => simp [tot]
  | cons a l ih =>
    have h1 := h a (by simp)
    have h2 := ih fun e he => h e (by simp [he])
    have : tot (a :: l) = a.2.2 + tot l := by simp [tot]
    rw [this, List.length_cons]
    push_cast
    omega
theorem whorls_bd {f : Fld} {e : Edg} (h : e ∈ whorls f) : -4 ≤ e.2.2 ∧ e.2.2 ≤ 4 := by
  obtain ⟨k, hk, rfl⟩ := List.getElem_of_mem h
  obtain ⟨_, _, hi, _⟩ := whorls_get (List.getElem?_eq_getElem hk)
  have r4 := rnd_four f (whorls f)[k].1 (whorls f)[k].2.1
  have r5 := rnd_bd f (whorls f)[k].1 (whorls f)[k].2.1
  rw [← hi] at r4
  omega
set_option maxRecDepth 10000 in
set_option maxHeartbeats 1000000 in
theorem total_any (v : FV) (w : World) (hv : v.In w) :
    Calls Try.prog 53 #[v.val] w fun r w' => r = .returned (.int .i64 (tot (whorls v.f))) ∧ Below w.heap.size w w' := by
  have HVv := Lib.hid hv
  clear hv
  go_enter Try.func53, Try.ntmps53
  dsimp only [FV.val]
  go_wp2_with fail
  with_reducible refine (Whorls_any v _ (HVv.out.below (belowA _ _))).mono ?_
  rintro r w1 ⟨A, c, rfl, hr1, hb1⟩
  have HR := Lib.hid hr1
  have hw1 := Lib.hid (below1 _ hb1)
  have HB := Lib.hid (fun e he => whorls_bd (f := v.f) (e := e) he)
  have hlen := whorls_len v.f
  clear hr1 hb1
  generalize hes : whorls v.f = es at HR hlen HB ⊢
  have HES := Lib.hid hes
  clear hes
  go_wp2_with fail
  go_loopw [5, 6] (fun s i wr => ∃ k : Nat, k ≤ es.length ∧ i = .int .i64 k ∧ s = .int .i64 (tot (es.take k)) ∧ Below w1.heap.size w1 wr) (fun _ i _ => es.length - (intOf i).toNat)
  case atStart => exact ⟨0, by omega, rfl, by simp [tot], Below.refl _ _⟩
  case round =>
    obtain ⟨k, hk, rfl, rfl, hb0⟩ := hrel
    have HB0 := Lib.hid hb0
    replace HR := Lib.hid (HR.out.on hb0)
    clear hb0
    by_cases hlt : k < es.length
    · obtain ⟨ad, e, e1, hbk, hx0, d0, d1, d2⟩ := psat HR.out hlt
      have X := fun w => ix40 (c := c) e1 hlt w
      have HT := Lib.hid (tot_take_succ hx0)
      obtain ⟨z0, z1⟩ := HB.out e (List.mem_of_getElem? hx0)
      obtain ⟨t0, t1⟩ := tot_bd (l := es.take k) (fun x hx => HB.out x (List.mem_of_mem_take hx))
      have tl : (es.take k).length ≤ 144 := Nat.le_trans (List.length_take_le _ _) (by omega)
      clear hx0 e1 d0 d1
      generalize tot (es.take k) = s at HT t0 t1
      go_wp2_with fail
      go_roundw
      case rel => exact ⟨k + 1, by omega, by go_num, by rw [HT.out], HB0.out⟩
      case measure => simp [intOf]; omega
    · have HT := Lib.hid (show es.take k = es from List.take_of_length_le (by omega))
      rw [HT.out]
      generalize hs : tot es = s
      have HS := Lib.hid hs
      clear hs
      go_wp2_with fail
      go_ret
      exact ⟨by rw [HES.out, HS.out]; rfl, below_trans' hw1.out HB0.out⟩
end Go.Proofs.Ytahmdnboeenfkaa

namespace Go.Proofs.Ytahmdnboeenfkaa
open Go.RowKit Go.Sort

set_option maxRecDepth 10000 in
set_option maxHeartbeats 1000000 in
theorem topTotal_any (v : FV) (w : World) (hv : v.In w) :
    Calls Try.prog 54 #[v.val] w fun r w' => r = .returned (.int .i64 (tot (whorls v.f))) ∧ Below w.heap.size w w' := by
  have HVv := Lib.hid hv
  clear hv
  go_enter Try.func54, Try.ntmps54
  dsimp only [FV.val]
  go_wp2_with fail
  with_reducible refine (Whorls_any v _ (HVv.out.below (belowA _ _))).mono ?_
  rintro r w1 ⟨A, c, rfl, hr1, hb1⟩
  have HR := Lib.hid hr1
  have hw1 := Lib.hid (below1 _ hb1)
  have HB := Lib.hid (fun e he => whorls_bd (f := v.f) (e := e) he)
  have hlen := whorls_len v.f
  clear hr1 hb1
  generalize hes : whorls v.f = es at HR hlen HB ⊢
  have HES := Lib.hid hes
  clear hes
  go_wp2_with fail
  go_loopw [5, 6] (fun s i wr => ∃ k : Nat, k ≤ es.length ∧ i = .int .i64 k ∧ s = .int .i64 (tot (es.take k)) ∧ Below w1.heap.size w1 wr) (fun _ i _ => es.length - (intOf i).toNat)
  case atStart => exact ⟨0, by omega, rfl, by simp [tot], Below.refl _ _⟩
  case round =>
    obtain ⟨k, hk, rfl, rfl, hb0⟩ := hrel
    have HB0 := Lib.hid hb0
    replace HR := Lib.hid (HR.out.on hb0)
    clear hb0
    by_cases hlt : k < es.length
    · obtain ⟨ad, e, e1, hbk, hx0, d0, d1, d2⟩ := psat HR.out hlt
      have X := fun w => ix40 (c := c) e1 hlt w
      have HT := Lib.hid (tot_take_succ hx0)
      obtain ⟨z0, z1⟩ := HB.out e (List.mem_of_getElem? hx0)
      obtain ⟨t0, t1⟩ := tot_bd (l := es.take k) (fun x hx => HB.out x (List.mem_of_mem_take hx))
      have tl : (es.take k).length ≤ 144 := Nat.le_trans (List.length_take_le _ _) (by omega)
      clear hx0 e1 d0 d1
      generalize tot (es.take k) = s at HT t0 t1
      go_wp2_with fail
      go_roundw
      case rel => exact ⟨k + 1, by omega, by go_num, by rw [HT.out], HB0.out⟩
      case measure => simp [intOf]; omega
    · have HT := Lib.hid (show es.take k = es from List.take_of_length_le (by omega))
      rw [HT.out]
      generalize hs : tot es = s
      have HS := Lib.hid hs
      clear hs
      go_wp2_with fail
      go_ret
      exact ⟨by rw [HES.out, HS.out]; rfl, below_trans' hw1.out HB0.out⟩
end Go.Proofs.Ytahmdnboeenfkaa

namespace Go.Proofs.Ytahmdnboeenfkaa
open Go.RowKit Go.Sort

theorem fin_ok {f : Fld} (h : valid f = 0) : fin f = f := by unfold fin; rw [if_pos h]
theorem quaR_val {f : Fld} (h : valid f = 0) : quaR f = (quaF f, 0) := by rw [quaR_ok h, valid_qua h, fin_ok (valid_qua h)]
theorem mirR_val {f : Fld} (h : valid f = 0) : mirR f = (mirF f, 0) := by rw [mirR_ok h, valid_mir h, fin_ok (valid_mir h)]
theorem outF_ins : insR outF [(0, 0)] = (2, 0) := by decide +kernel
theorem all_none (f : Fld) (x y : Int) {w h : Nat} (hz : w = 0 ∨ h = 0) : inP f (allL x y w h) = 0 := by
  unfold inP allL allR
  rw [lsum_flat]
  rcases hz with rfl | rfl
  · exact S_zero h
  · rfl
theorem ins_bd (f : Fld) (l : List Plc) (hl : l.length ≤ 200) : -4000 ≤ (insR f l).1 ∧ (insR f l).1 ≤ 4000 := by
  unfold insR
  split
  · simp
  · have := inP_bd f l
    simp only; omega
theorem rims_code (f : Fld) (l : List Plc) : (rimsR f l).2 = (insR f l).2 := by unfold rimsR insR; split <;> rfl
/-- A part that is cut out without an error. -/
theorem crop_good {f : Fld} {x y w h : Int} (hv : valid f = 0) (h0 : (cropR f x y w h).2 = 0) : cropOk f x y w h ∧ valid (cropF f x y w h) = 0 ∧ (cropR f x y w h).1 = cropF f x y w h := by
  by_cases ho : cropOk f x y w h
  · rw [cropR_ok hv ho] at h0 ⊢
    have h1 : valid (cropF f x y w h) = 0 := h0
    exact ⟨ho, h1, by show fin _ = _; unfold fin; rw [if_pos h1]⟩
  · rw [cropR_arg hv ho] at h0; cases h0

set_option maxHeartbeats 8000000 in
set_option maxRecDepth 100000 in
theorem topWhorls (v : FV) (A : Option Addr) (n c : Nat) (l : List Plc) (x : Frm) (w : World) (hv : v.In w) (hvc : v.n ≤ v.c) (hl : Reads w w.heap.size 2 A n (plcs l)) (hn : n ≤ 9223372036854775807) (hc : n ≤ c) :
    Calls Try.prog 16 #[v.val, .slice A n c, frval x] w fun r w' => r = .returned (.bool true) ∧ Below w.heap.size w w' := by
  have HV := Lib.hid hv
  have HL := Lib.hid hl
  have hlen := hl.1
  rw [plcs_length] at hlen
  have l2 : l.length ≤ n := by omega
  obtain ⟨fx, fy, fw, fh⟩ := x
  clear hv hl hlen
  go_enter Try.func16, Try.ntmps16
  dsimp only [FV.val]
  go_wp2_with fail
  have bv := (((Box.new w #[.int .i64 v.f.W, .int .i64 v.f.H, .slice v.A v.n v.c, .slice v.B v.m v.d] 25).alloc (.cells #[.int .i64 fx, .int .i64 fy, .int .i64 fw, .int .i64 fh] 59)).alloc (.cells #[.int .i64 5, .int .i64 7, .int .i64 3, .int .i64 1] 3)).alloc (.cells #[.int .i64 0, .int .i64 0] 35)
  have bx := ((Box.new2 w #[.int .i64 v.f.W, .int .i64 v.f.H, .slice v.A v.n v.c, .slice v.B v.m v.d] #[.int .i64 fx, .int .i64 fy, .int .i64 fw, .int .i64 fh] 25 59).alloc (.cells #[.int .i64 5, .int .i64 7, .int .i64 3, .int .i64 1] 3)).alloc (.cells #[.int .i64 0, .int .i64 0] 35)
  have hw0 := below_trans' (belowAA w (.cells #[.int .i64 v.f.W, .int .i64 v.f.H, .slice v.A v.n v.c, .slice v.B v.m v.d] 25) (.cells #[.int .i64 fx, .int .i64 fy, .int .i64 fw, .int .i64 fh] 59)) (belowAA ((w.alloc (.cells #[.int .i64 v.f.W, .int .i64 v.f.H, .slice v.A v.n v.c, .slice v.B v.m v.d] 25)).alloc (.cells #[.int .i64 fx, .int .i64 fy, .int .i64 fw, .int .i64 fh] 59)) (.cells #[.int .i64 5, .int .i64 7, .int .i64 3, .int .i64 1] 3) (.cells #[.int .i64 0, .int .i64 0] 35))
  have o1 := (reads_new ((w.alloc (.cells #[.int .i64 v.f.W, .int .i64 v.f.H, .slice v.A v.n v.c, .slice v.B v.m v.d] 25)).alloc (.cells #[.int .i64 fx, .int .i64 fy, .int .i64 fw, .int .i64 fh] 59)) (ints [5, 7, 3, 1]) 3 1 4 rfl).on (belowA _ (.cells #[.int .i64 0, .int .i64 0] 35))
  have o2 := reads_new (((w.alloc (.cells #[.int .i64 v.f.W, .int .i64 v.f.H, .slice v.A v.n v.c, .slice v.B v.m v.d] 25)).alloc (.cells #[.int .i64 fx, .int .i64 fy, .int .i64 fw, .int .i64 fh] 59)).alloc (.cells #[.int .i64 5, .int .i64 7, .int .i64 3, .int .i64 1] 3)) (plcs [(0, 0)]) 35 2 1 rfl
  simp only [World.size_alloc] at o1 o2
  have O1 := Lib.hid o1
  have O2 := Lib.hid o2
  have HW0 := Lib.hid hw0
  have IN0 := Lib.hid (show (⟨⟨2, 2, [5, 7, 3, 1], []⟩, some ⟨w.heap.size + 1 + 1, 0, none⟩, none, 4, 4, 0, 0⟩ : FV).In ((((w.alloc (.cells #[.int .i64 v.f.W, .int .i64 v.f.H, .slice v.A v.n v.c, .slice v.B v.m v.d] 25)).alloc (.cells #[.int .i64 fx, .int .i64 fy, .int .i64 fw, .int .i64 fh] 59)).alloc (.cells #[.int .i64 5, .int .i64 7, .int .i64 3, .int .i64 1] 3)).alloc (.cells #[.int .i64 0, .int .i64 0] 35)) from ⟨by simpa [ints] using O1.out, Reads.nil, by show (4 : Nat) ≤ _; omega, by show (0 : Nat) ≤ _; omega⟩)
  have RD0 := Lib.hid (show Reads ((((w.alloc (.cells #[.int .i64 v.f.W, .int .i64 v.f.H, .slice v.A v.n v.c, .slice v.B v.m v.d] 25)).alloc (.cells #[.int .i64 fx, .int .i64 fy, .int .i64 fw, .int .i64 fh] 59)).alloc (.cells #[.int .i64 5, .int .i64 7, .int .i64 3, .int .i64 1] 3)).alloc (.cells #[.int .i64 0, .int .i64 0] 35)) ((((w.alloc (.cells #[.int .i64 v.f.W, .int .i64 v.f.H, .slice v.A v.n v.c, .slice v.B v.m v.d] 25)).alloc (.cells #[.int .i64 fx, .int .i64 fy, .int .i64 fw, .int .i64 fh] 59)).alloc (.cells #[.int .i64 5, .int .i64 7, .int .i64 3, .int .i64 1] 3)).alloc (.cells #[.int .i64 0, .int .i64 0] 35)).heap.size 2 (some ⟨w.heap.size + 1 + 1 + 1, 0, none⟩) 1 (plcs [(0, 0)]) by simpa [plcs, pcells] using O2.out)
  clear o1 o2 hw0
  with_reducible refine (Inside_any ⟨⟨2, 2, [5, 7, 3, 1], []⟩, some ⟨w.heap.size + 1 + 1, 0, none⟩, none, 4, 4, 0, 0⟩ (some ⟨w.heap.size + 1 + 1 + 1, 0, none⟩) 1 1 [(0, 0)] _ IN0.out RD0.out (by omega) (by omega)).mono ?_
  rintro r w1 ⟨rfl, hb1⟩
  dsimp only
  rw [show insR ⟨2, 2, [5, 7, 3, 1], []⟩ [(0, 0)] = (2, 0) from outF_ins]
  replace bv := bv.below hb1
  replace bx := bx.below hb1
  have hw := Lib.hid (below_trans' HW0.out hb1)
  replace HV := Lib.hid (HV.out.below hw.out)
  replace HL := Lib.hid (HL.out.on hw.out)
  clear hb1 O1 O2 HW0 IN0 RD0
  have c0 := bv.at
  dsimp only
  go_wp2_with fail
  clear c0
  with_reducible refine (long_any v _ HV.out).mono ?_
  rintro r w2 ⟨rfl, hb⟩
  replace bv := bv.below hb
  replace bx := bx.below hb
  replace hw := Lib.hid (below_trans' hw.out hb)
  replace HV := Lib.hid (HV.out.below hb)
  replace HL := Lib.hid (HL.out.on hb)
  clear hb
  cases hlong : longF v.f
  case true =>
    go_wp2_with fail
    go_ret
    exact ⟨rfl, hw.out⟩
  clear hlong
  by_cases hmany : 200 < n
  · go_wp2_with fail
    go_ret
    exact ⟨rfl, hw.out⟩
  have c0 := bv.at
  go_wp2_with fail
  clear c0
  with_reducible refine (validate_any v _ HV.out).mono ?_
  rintro r w3 ⟨rfl, hb⟩
  replace bv := bv.below hb
  replace bx := bx.below hb
  replace hw := Lib.hid (below_trans' hw.out hb)
  replace HV := Lib.hid (HV.out.below hb)
  replace HL := Lib.hid (HL.out.on hb)
  clear hb
  by_cases hz : valid v.f = 0
  case neg =>
    have hz' : (valid v.f != 0) = true := by simpa using hz
    clear hz
    go_wp2_with fail
    go_ret
    exact ⟨rfl, hw.out⟩
  have HZ := Lib.hid hz
  rw [hz]
  clear hz
  have c0 := bv.at
  go_wp2_with fail
  clear c0
  with_reducible refine (Inside_any v A n c l _ HV.out HL.out (by omega) hc).mono ?_
  rintro r w4 ⟨rfl, hb⟩
  replace bv := bv.below hb
  replace bx := bx.below hb
  replace hw := Lib.hid (below_trans' hw.out hb)
  replace HV := Lib.hid (HV.out.below hb)
  replace HL := Lib.hid (HL.out.on hb)
  clear hb
  have c0 := bv.at
  go_wp2_with fail
  clear c0
  with_reducible refine (Rim_any v A n c l _ HV.out HL.out (by omega) hc).mono ?_
  rintro r w5 ⟨rfl, hb⟩
  replace bv := bv.below hb
  replace bx := bx.below hb
  replace hw := Lib.hid (below_trans' hw.out hb)
  replace HV := Lib.hid (HV.out.below hb)
  rw [rimsR_four, rims_code]
  obtain ⟨i0, i1⟩ := ins_bd v.f l (by omega)
  clear hb HL
  generalize (insR v.f l).1 = z1 at i0 i1 ⊢
  generalize (insR v.f l).2 = z2
  have c0 := bv.at
  have c1 := bx.at
  go_wp2_with fail
  clear c0 c1
  with_reducible refine (Crop_any v fx fy fw fh _ HV.out hvc).mono ?_
  rintro r w6 ⟨p, hpf, rfl, ho, hb⟩
  replace bv := bv.below hb
  replace bx := bx.below hb
  replace hw := Lib.hid (below_trans' hw.out hb)
  replace HV := Lib.hid (HV.out.below hb)
  have HP := Lib.hid hpf
  have IP := Lib.hid ho.In
  clear hb hpf ho
  by_cases hcz : (cropR v.f fx fy fw fh).2 = 0
  case neg =>
    have hz' : ((cropR v.f fx fy fw fh).2 != 0) = true := by simpa using hcz
    clear hcz
    dsimp only [FV.val]
    go_wp2_with fail
    go_ret
    exact ⟨rfl, below_trans' hw.out (belowA _ _)⟩
  obtain ⟨hck, hvp, hpe⟩ := crop_good HZ.out hcz
  have hpe' := HP.out.trans hpe
  rw [hcz]
  have HVP := Lib.hid hvp
  have HCK := Lib.hid hck
  clear HP hpe hcz
  obtain ⟨c1, c2, c3, c4, c5, c6⟩ := hck
  have ok := Lib.hid (okf_of_valid HZ.out)
  have o1 := ok.out.w2
  have o2 := ok.out.h2
  obtain ⟨xn, rfl⟩ := Int.eq_ofNat_of_zero_le c3
  obtain ⟨yn, rfl⟩ := Int.eq_ofNat_of_zero_le c4
  obtain ⟨wn, rfl⟩ := Int.eq_ofNat_of_zero_le (show 0 ≤ fw by omega)
  obtain ⟨hn', rfl⟩ := Int.eq_ofNat_of_zero_le (show 0 ≤ fh by omega)
  obtain ⟨⟨pw, ph, D, Q⟩, A', B', n', c', m', d'⟩ := p
  obtain rfl : pw = (wn : Int) := congrArg Fld.W hpe'
  obtain rfl : ph = (hn' : Int) := congrArg Fld.H hpe'
  have HEQ := Lib.hid hpe'
  clear hpe' hvp
  try dsimp only at IP
  have d1 : 1 ≤ wn := by omega
  have d2 : 1 ≤ hn' := by omega
  have d3 : xn + wn ≤ 12 := by omega
  have d4 : yn + hn' ≤ 12 := by omega
  clear c1 c2 c3 c4 c5 c6 o1 o2 i0 i1
  dsimp only [FV.val]
  go_wp2_with fail
  refine gen_at (fun W => Box W w.heap.size #[.int .i64 v.f.W, .int .i64 v.f.H, .slice v.A v.n v.c, .slice v.B v.m v.d] ∧ Box W (w.heap.size + 1) #[.int .i64 (xn : Int), .int .i64 (yn : Int), .int .i64 (wn : Int), .int .i64 (hn' : Int)] ∧ Box W w6.heap.size #[.int .i64 (wn : Int), .int .i64 (hn' : Int), .slice A' n' c', .slice B' m' d'] ∧ Below w6.heap.size w6 W) ⟨bv.alloc _, bx.alloc _, Box.new _ _ _, belowA _ _⟩ ?_
  rintro w7 ⟨bv7, bx7, bp7, hb7⟩
  have HV7 := Lib.hid (HV.out.below hb7)
  have IP7 := Lib.hid (IP.out.below hb7)
  have hw7 := Lib.hid (below_trans' hw.out hb7)
  clear bv bx hb7 HV IP hw
  go_loopw [14, 16] (fun out i wr => ∃ g : Nat, g ≤ hn' - 1 ∧ i = .int .i64 g ∧ OwnX 35 2 w7 wr out (g * (wn - 1)) (plcs (allL xn yn (wn - 1) g))) (fun _ i _ => hn' - 1 - (intOf i).toNat)
  case atStart => exact ⟨0, by omega, rfl, by simpa [allL, plcs] using OwnX.nil 35 2 w7⟩
  case round =>
    obtain ⟨g, hg, rfl, hown0⟩ := hrel
    have bp := bp7.below hown0.bel
    have cp := bp.at
    by_cases hlt : g < hn' - 1
    · have HO := Lib.hid hown0
      have k1 : (g : Int) + 1 < (hn' : Int) := by omega
      clear hown0
      go_wp2_with fail
      clear cp
      go_loopw [14, 17] (fun out i wr => ∃ u : Nat, u ≤ wn - 1 ∧ i = .int .i64 u ∧ OwnX 35 2 w7 wr out (g * (wn - 1) + u) (plcs (allL xn yn (wn - 1) g ++ allR xn yn g u))) (fun _ i _ => wn - 1 - (intOf i).toNat)
      case atStart => exact ⟨0, by omega, rfl, by simpa [allR] using HO.out⟩
      case round =>
        clear HO bp
        obtain ⟨u, hu, rfl, hown1⟩ := hrel
        have bp := bp7.below hown1.bel
        have bx := bx7.below hown1.bel
        have cp := bp.at
        have HO := Lib.hid hown1
        clear hown1
        by_cases hltu : u < wn - 1
        · have cx := bx.at
          have k2 : (u : Int) + 1 < (wn : Int) := by omega
          have HAR := Lib.hid (show allR xn yn g (u + 1) = allR xn yn g u ++ [((xn : Int) + (u : Int), (yn : Int) + (g : Int))] by simp [allR, List.range_succ])
          have hlen : g * (wn - 1) + u < 1000000000 := by
            have := Nat.mul_le_mul (show g ≤ 12 by omega) (show wn - 1 ≤ 12 by omega)
            omega
          go_wp2_with (at_builtin; refine wpList_pushX rfl _ _ 45 35 rfl Try.underlying45 info35 rfl (by omega) (by omega) w7 _ _ _ _ (pcells ((xn : Int) + (u : Int), (yn : Int) + (g : Int))) _ rfl (HO.out.on (belowA _ _)) rfl (Box.new _ _ _) rfl (plcs_one [_]) hlen ?_; intro v' w' hown'; have hown5 := Lib.hid hown'; clear hown')
          go_roundw
          case rel => exact ⟨u + 1, by omega, by go_num, by rw [HAR.out, ← List.append_assoc, plcs_append]; simpa [plcs, Nat.add_assoc] using hown5.out⟩
          case measure => simp [intOf]; omega
        · have k2 : ¬ ((u : Int) + 1 < (wn : Int)) := by omega
          have HAL := Lib.hid (show allL xn yn (wn - 1) (g + 1) = allL xn yn (wn - 1) g ++ allR xn yn g u by
            unfold allL; rw [List.range_succ, List.flatMap_append, show u = wn - 1 by omega]; simp)
          have hcn := Lib.hid (show (g + 1) * (wn - 1) = g * (wn - 1) + u by rw [Nat.add_mul, Nat.one_mul]; omega)
          go_wp2_with fail
          go_roundw
          case rel => exact ⟨g + 1, by omega, by go_num, by rw [HAL.out, hcn.out]; exact HO.out⟩
          case measure => simp [intOf]; omega
    · have hgn : g = hn' - 1 := by omega
      subst hgn
      have k1 : ¬ (((hn' - 1 : Nat) : Int) + 1 < (hn' : Int)) := by omega
      obtain ⟨Al, cl, hvl, hrl⟩ := hown0.form
      have hcl := (row_cap (hvl ▸ hown0.row)).1
      have HAL := Lib.hid hrl
      have bv8 := bv7.below hown0.bel
      have bx8 := bx7.below hown0.bel
      have bp8 := bp
      have HV8 := Lib.hid (HV7.out.below hown0.bel)
      have IP8 := Lib.hid (IP7.out.below hown0.bel)
      have hw8 := Lib.hid (below_trans' hw7.out hown0.bel)
      subst hvl
      clear hown0 hrl bv7 bx7 bp7 HV7 IP7 hw7 bp
      go_wp2_with fail
      clear cp k1
      obtain ⟨w8, rfl⟩ : ∃ w8 : World, w8 = wr := ⟨_, rfl⟩
      go_loopw [15, 18] (fun out i wr => ∃ j : Nat, j ≤ wn ∧ i = .int .i64 (j : Int) ∧ OwnX 35 2 w8 wr out (j) (plcs (rpL xn yn wn hn' (j)))) (fun _ i _ => wn - (intOf i).toNat)
      case atStart => exact ⟨0, by omega, rfl, by simpa [rpL, plcs] using OwnX.nil 35 2 w8⟩
      case round =>
        skip
        obtain ⟨j, hj, rfl, hown1⟩ := hrel
        have bx := bx8.below hown1.bel
        have cx := bx.at
        have HO := Lib.hid hown1
        clear hown1
        by_cases hltj : j < wn
        · have k2 : (j : Int) < (wn : Int) := by omega
          have HRP := Lib.hid (show rpL xn yn wn hn' (j + 1) = rpL xn yn wn hn' (j) ++ [((xn : Int) + (j : Int), (yn : Int))] by
            show rpL xn yn wn hn' (j + 1) = _
            rw [rpL_succ]
            congr 2
            unfold rp
            rw [if_pos (by omega)])
          have hlen : j < 1000000000 := by omega
          go_wp2_with (at_builtin; refine wpList_pushX rfl _ _ 45 35 rfl Try.underlying45 info35 rfl (by omega) (by omega) w8 _ _ _ _ (pcells ((xn : Int) + (j : Int), (yn : Int))) _ rfl (HO.out.on (belowA _ _)) rfl (Box.new _ _ _) rfl (plcs_one [_]) hlen ?_; intro v' w' hown'; have hown5 := Lib.hid hown'; clear hown')
          go_roundw
          case rel => exact ⟨j + 1, by omega, by go_num, by rw [HRP.out, plcs_append]; simpa [plcs, Nat.add_assoc] using hown5.out⟩
          case measure => simp [intOf]; omega
        · have k2 : ¬ ((j : Int) < (wn : Int)) := by omega
          have hjm : j = wn := by omega
          replace HO := Lib.hid (show OwnX 35 2 w8 wr _ (wn + 0) (plcs (rpL xn yn wn hn' (wn + 0))) by have h := HO.out; rw [hjm] at h; exact h)
          clear hjm hltj hj
          go_wp2_with fail
          clear cx k2 bx
          go_loopw [15, 19] (fun out i wr => ∃ j : Nat, j ≤ hn' - 1 ∧ i = .int .i64 ((j : Int) + 1) ∧ OwnX 35 2 w8 wr out (wn + j) (plcs (rpL xn yn wn hn' (wn + j)))) (fun _ i _ => hn' - (intOf i).toNat)
          case atStart => exact ⟨0, by omega, by go_num, HO.out⟩
          case round =>
            clear HO
            obtain ⟨j, hj, rfl, hown1⟩ := hrel
            have bx := bx8.below hown1.bel
            have cx := bx.at
            have HO := Lib.hid hown1
            clear hown1
            by_cases hltj : j < hn' - 1
            · have k2 : (j : Int) + 1 < (hn' : Int) := by omega
              have HRP := Lib.hid (show rpL xn yn wn hn' (wn + (j + 1)) = rpL xn yn wn hn' (wn + j) ++ [((xn : Int) + (wn : Int) - 1, (yn : Int) + ((j : Int) + 1))] by
                show rpL xn yn wn hn' (wn + j + 1) = _
                rw [rpL_succ]
                congr 2
                unfold rp
                rw [if_neg (by omega), if_pos (by omega)]; exact Prod.ext rfl (by show (yn : Int) + (((wn + j : Nat) : Int) - (wn : Int) + 1) = _; omega))
              have hlen : wn + j < 1000000000 := by omega
              go_wp2_with (at_builtin; refine wpList_pushX rfl _ _ 45 35 rfl Try.underlying45 info35 rfl (by omega) (by omega) w8 _ _ _ _ (pcells ((xn : Int) + (wn : Int) - 1, (yn : Int) + ((j : Int) + 1))) _ rfl (HO.out.on (belowA _ _)) rfl (Box.new _ _ _) rfl (plcs_one [_]) hlen ?_; intro v' w' hown'; have hown5 := Lib.hid hown'; clear hown')
              go_roundw
              case rel => exact ⟨j + 1, by omega, by go_num, by rw [HRP.out, plcs_append]; simpa [plcs, Nat.add_assoc] using hown5.out⟩
              case measure => simp [intOf]; omega
            · have k2 : ¬ ((j : Int) + 1 < (hn' : Int)) := by omega
              have hjm : j = hn' - 1 := by omega
              replace HO := Lib.hid (show OwnX 35 2 w8 wr _ (wn + (hn' - 1) + 0) (plcs (rpL xn yn wn hn' (wn + (hn' - 1) + 0))) by have h := HO.out; rw [hjm] at h; exact h)
              clear hjm hltj hj
              go_wp2_with fail
              clear cx k2 bx
              go_loopw [15, 20] (fun out i wr => ∃ j : Nat, j ≤ wn - 1 ∧ i = .int .i64 ((wn : Int) - 2 - (j : Int)) ∧ OwnX 35 2 w8 wr out (wn + (hn' - 1) + j) (plcs (rpL xn yn wn hn' (wn + (hn' - 1) + j)))) (fun _ i _ => (intOf i + 1).toNat)
              case atStart => exact ⟨0, by omega, by go_num, HO.out⟩
              case round =>
                clear HO
                obtain ⟨j, hj, rfl, hown1⟩ := hrel
                have bx := bx8.below hown1.bel
                have cx := bx.at
                have HO := Lib.hid hown1
                clear hown1
                by_cases hltj : j < wn - 1
                · have k2 : (0 : Int) ≤ (wn : Int) - 2 - (j : Int) := by omega
                  have HRP := Lib.hid (show rpL xn yn wn hn' (wn + (hn' - 1) + (j + 1)) = rpL xn yn wn hn' (wn + (hn' - 1) + j) ++ [((xn : Int) + ((wn : Int) - 2 - (j : Int)), (yn : Int) + (hn' : Int) - 1)] by
                    show rpL xn yn wn hn' (wn + (hn' - 1) + j + 1) = _
                    rw [rpL_succ]
                    congr 2
                    unfold rp
                    rw [if_neg (by omega), if_neg (by omega), if_pos (by omega)]; exact Prod.ext (by show (xn : Int) + (2 * (wn : Int) + (hn' : Int) - 3 - ((wn + (hn' - 1) + j : Nat) : Int)) = _; omega) rfl)
                  have hlen : wn + (hn' - 1) + j < 1000000000 := by omega
                  go_wp2_with (at_builtin; refine wpList_pushX rfl _ _ 45 35 rfl Try.underlying45 info35 rfl (by omega) (by omega) w8 _ _ _ _ (pcells ((xn : Int) + ((wn : Int) - 2 - (j : Int)), (yn : Int) + (hn' : Int) - 1)) _ rfl (HO.out.on (belowA _ _)) rfl (Box.new _ _ _) rfl (plcs_one [_]) hlen ?_; intro v' w' hown'; have hown5 := Lib.hid hown'; clear hown')
                  go_roundw
                  case rel => exact ⟨j + 1, by omega, by go_num, by rw [HRP.out, plcs_append]; simpa [plcs, Nat.add_assoc] using hown5.out⟩
                  case measure => simp [intOf]; omega
                · have k2 : ¬ ((0 : Int) ≤ (wn : Int) - 2 - (j : Int)) := by omega
                  have hjm : j = wn - 1 := by omega
                  replace HO := Lib.hid (show OwnX 35 2 w8 wr _ (wn + (hn' - 1) + (wn - 1) + 0) (plcs (rpL xn yn wn hn' (wn + (hn' - 1) + (wn - 1) + 0))) by have h := HO.out; rw [hjm] at h; exact h)
                  clear hjm hltj hj
                  go_wp2_with fail
                  clear cx k2 bx
                  go_loopw [15, 21] (fun out i wr => ∃ j : Nat, j ≤ hn' - 1 ∧ i = .int .i64 ((hn' : Int) - 2 - (j : Int)) ∧ OwnX 35 2 w8 wr out (wn + (hn' - 1) + (wn - 1) + j) (plcs (rpL xn yn wn hn' (wn + (hn' - 1) + (wn - 1) + j)))) (fun _ i _ => (intOf i + 1).toNat)
                  case atStart => exact ⟨0, by omega, by go_num, HO.out⟩
                  case round =>
                    clear HO
                    obtain ⟨j, hj, rfl, hown1⟩ := hrel
                    have bx := bx8.below hown1.bel
                    have cx := bx.at
                    have HO := Lib.hid hown1
                    clear hown1
                    by_cases hltj : j < hn' - 1
                    · have k2 : (0 : Int) ≤ (hn' : Int) - 2 - (j : Int) := by omega
                      have HRP := Lib.hid (show rpL xn yn wn hn' (wn + (hn' - 1) + (wn - 1) + (j + 1)) = rpL xn yn wn hn' (wn + (hn' - 1) + (wn - 1) + j) ++ [((xn : Int), (yn : Int) + ((hn' : Int) - 2 - (j : Int)))] by
                        show rpL xn yn wn hn' (wn + (hn' - 1) + (wn - 1) + j + 1) = _
                        rw [rpL_succ]
                        congr 2
                        unfold rp
                        rw [if_neg (by omega), if_neg (by omega), if_neg (by omega)]; exact Prod.ext rfl (by show (yn : Int) + (2 * (wn : Int) + 2 * (hn' : Int) - 4 - ((wn + (hn' - 1) + (wn - 1) + j : Nat) : Int)) = _; omega))
                      have hlen : wn + (hn' - 1) + (wn - 1) + j < 1000000000 := by omega
                      go_wp2_with (at_builtin; refine wpList_pushX rfl _ _ 45 35 rfl Try.underlying45 info35 rfl (by omega) (by omega) w8 _ _ _ _ (pcells ((xn : Int), (yn : Int) + ((hn' : Int) - 2 - (j : Int)))) _ rfl (HO.out.on (belowA _ _)) rfl (Box.new _ _ _) rfl (plcs_one [_]) hlen ?_; intro v' w' hown'; have hown5 := Lib.hid hown'; clear hown')
                      go_roundw
                      case rel => exact ⟨j + 1, by omega, by go_num, by rw [HRP.out, plcs_append]; simpa [plcs, Nat.add_assoc] using hown5.out⟩
                      case measure => simp [intOf]; omega
                    · have k2 : ¬ ((0 : Int) ≤ (hn' : Int) - 2 - (j : Int)) := by omega
                      have hjm : j = hn' - 1 := by omega
                      replace HO := Lib.hid (show OwnX 35 2 w8 wr _ (wn - 1 + (hn' - 1) + (wn - 1) + (hn' - 1) + 1) (plcs (rpL xn yn wn hn' (wn - 1 + (hn' - 1) + (wn - 1) + (hn' - 1) + 1))) by have h := HO.out; rw [hjm, show wn + (hn' - 1) + (wn - 1) + (hn' - 1) = wn - 1 + (hn' - 1) + (wn - 1) + (hn' - 1) + 1 by omega] at h; exact h)
                      clear hjm hltj hj
                      obtain ⟨Ap, cp', hvp, hrp⟩ := HO.out.form
                      have HPA := Lib.hid hrp
                      have hbel := HO.out.bel
                      clear HO hrp
                      subst hvp
                      have bv := bv8.below hbel
                      have bp := bp8.below hbel
                      have bxx := bx8.below hbel
                      have HV := Lib.hid (HV8.out.below hbel)
                      have IP := Lib.hid (IP8.out.below hbel)
                      have hw := Lib.hid (below_trans' hw8.out hbel)
                      replace HAL := Lib.hid (HAL.out.on hbel)
                      have cv := bv.at
                      clear hbel bv8 bx8 bp8 HV8 IP8 hw8
                      go_wp2_with fail
                      clear cv k2
                      with_reducible refine (Walk_any v Ap (wn - 1 + (hn' - 1) + (wn - 1) + (hn' - 1) + 1) cp' (rpL xn yn wn hn' (wn - 1 + (hn' - 1) + (wn - 1) + (hn' - 1) + 1)) _ HV.out HPA.out (by omega)).mono ?_
                      rintro r wa ⟨rfl, hb⟩
                      replace bv := bv.below hb
                      replace bp := bp.below hb
                      replace bxx := bxx.below hb
                      replace HAL := Lib.hid (HAL.out.on hb)
                      replace hw := Lib.hid (below_trans' hw.out hb)
                      replace HV := Lib.hid (HV.out.below hb)
                      replace IP := Lib.hid (IP.out.below hb)
                      clear hb HPA
                      have HWK := Lib.hid (fun (h1 : 2 ≤ wn) (h2 : 2 ≤ hn') => rp_walks HZ.out HCK.out h1 h2)
                      obtain ⟨I, hI⟩ : ∃ I, I = inP v.f (allL xn yn (wn - 1) (hn' - 1)) := ⟨_, rfl⟩
                      have HI := Lib.hid hI
                      have HINS := Lib.hid (show insR v.f (allL xn yn (wn - 1) (hn' - 1)) = (I, 0) by rw [hI]; exact all_ins HZ.out HCK.out)
                      have HVF := Lib.hid (show valid (⟨(wn : Int), (hn' : Int), D, Q⟩ : Fld) = 0 by rw [HEQ.out]; exact HVP.out)
                      have HTOT := Lib.hid (show tot (whorls (⟨(wn : Int), (hn' : Int), D, Q⟩ : Fld)) = I by rw [HEQ.out, hI]; exact crop_sum HZ.out HCK.out HVP.out)
                      have HNONE := Lib.hid (fun (h : wn - 1 = 0 ∨ hn' - 1 = 0) => show I = 0 by rw [hI]; exact all_none _ _ _ h)
                      have hIb : -4000 ≤ I ∧ I ≤ 4000 := by
                        have h := ins_bd v.f (allL xn yn (wn - 1) (hn' - 1)) (by
                          have h1 := HAL.out.len
                          rw [plcs_length] at h1
                          have h2 := Nat.mul_le_mul (show hn' - 1 ≤ 12 by omega) (show wn - 1 ≤ 12 by omega)
                          omega)
                        rw [HINS.out] at h
                        exact h
                      obtain ⟨I0, I1⟩ := hIb
                      clear hI
                      have cv := bv.at
                      go_wp2_with fail
                      clear cv
                      with_reducible refine (Inside_any v Al ((hn' - 1) * (wn - 1)) cl (allL xn yn (wn - 1) (hn' - 1)) _ HV.out HAL.out (by have h2 := Nat.mul_le_mul (show hn' - 1 ≤ 12 by omega) (show wn - 1 ≤ 12 by omega); omega) hcl).mono ?_
                      rintro r wb ⟨rfl, hb⟩
                      rw [HINS.out]
                      replace bv := bv.below hb
                      replace bp := bp.below hb
                      replace bxx := bxx.below hb
                      replace hw := Lib.hid (below_trans' hw.out hb)
                      replace HV := Lib.hid (HV.out.below hb)
                      replace IP := Lib.hid (IP.out.below hb)
                      clear hb HAL
                      dsimp only
                      have cp := bp.at
                      go_wp2_with fail
                      clear cp
                      with_reducible refine (topTotal_any ⟨⟨(wn : Int), (hn' : Int), D, Q⟩, A', B', n', c', m', d'⟩ _ IP.out).mono ?_
                      rintro r wc ⟨rfl, hb⟩
                      dsimp only
                      rw [HTOT.out]
                      replace bv := bv.below hb
                      replace bp := bp.below hb
                      replace bxx := bxx.below hb
                      replace hw := Lib.hid (below_trans' hw.out hb)
                      replace HV := Lib.hid (HV.out.below hb)
                      replace IP := Lib.hid (IP.out.below hb)
                      clear hb
                      have cp := bp.at
                      go_wp2_with fail
                      clear cp
                      with_reducible refine (Mirror_any ⟨⟨(wn : Int), (hn' : Int), D, Q⟩, A', B', n', c', m', d'⟩ _ IP.out).mono ?_
                      rintro r wd ⟨m, haf, rfl, ho, hb⟩
                      dsimp only at haf ⊢
                      rw [mirR_val HVF.out] at haf ⊢
                      dsimp only at haf ⊢
                      have Hm := Lib.hid haf
                      have Im := Lib.hid ho.In
                      replace bp := bp.below hb
                      replace bxx := bxx.below hb
                      replace hw := Lib.hid (below_trans' hw.out hb)
                      replace HV := Lib.hid (HV.out.below hb)
                      replace IP := Lib.hid (IP.out.below hb)
                      clear hb haf ho bv
                      dsimp only [FV.val]
                      have cp := fun o => (bp.alloc o).at
                      go_wp2_with fail
                      clear cp
                      with_reducible refine (Quarter_any ⟨⟨(wn : Int), (hn' : Int), D, Q⟩, A', B', n', c', m', d'⟩ _ (IP.out.below (belowA _ _))).mono ?_
                      rintro r we ⟨q, haf, rfl, ho, hb⟩
                      dsimp only at haf ⊢
                      rw [quaR_val HVF.out] at haf ⊢
                      dsimp only at haf ⊢
                      have bm := (Box.new wd #[.int .i64 m.f.W, .int .i64 m.f.H, .slice m.A m.n m.c, .slice m.B m.m m.d] 25).below hb
                      replace bp := (bp.alloc (.cells #[.int .i64 m.f.W, .int .i64 m.f.H, .slice m.A m.n m.c, .slice m.B m.m m.d] 25)).below hb
                      replace bxx := (bxx.alloc (.cells #[.int .i64 m.f.W, .int .i64 m.f.H, .slice m.A m.n m.c, .slice m.B m.m m.d] 25)).below hb
                      replace hb := below1 _ hb
                      have Hq := Lib.hid haf
                      have Iq := Lib.hid ho.In
                      replace Im := Lib.hid (Im.out.below hb)
                      replace hw := Lib.hid (below_trans' hw.out hb)
                      replace HV := Lib.hid (HV.out.below hb)
                      replace IP := Lib.hid (IP.out.below hb)
                      clear hb haf ho
                      dsimp only [FV.val]
                      have cp := fun o => (bp.alloc o).at
                      have cx2 := fun o => (bxx.alloc o).at
                      go_wp2_with fail
                      clear cp cx2
                      with_reducible refine (Spin_any ⟨⟨(wn : Int), (hn' : Int), D, Q⟩, A', B', n', c', m', d'⟩ ((xn : Int) + 3) _ (IP.out.below (belowA _ _))).mono ?_
                      rintro r wf ⟨s, haf, rfl, ho, hb⟩
                      dsimp only at haf ⊢
                      rw [spinR_ok HVF.out] at haf ⊢
                      dsimp only at haf ⊢
                      have bq := (Box.new we #[.int .i64 q.f.W, .int .i64 q.f.H, .slice q.A q.n q.c, .slice q.B q.m q.d] 25).below hb
                      replace bm := (bm.alloc (.cells #[.int .i64 q.f.W, .int .i64 q.f.H, .slice q.A q.n q.c, .slice q.B q.m q.d] 25)).below hb
                      replace bp := (bp.alloc (.cells #[.int .i64 q.f.W, .int .i64 q.f.H, .slice q.A q.n q.c, .slice q.B q.m q.d] 25)).below hb
                      replace bxx := (bxx.alloc (.cells #[.int .i64 q.f.W, .int .i64 q.f.H, .slice q.A q.n q.c, .slice q.B q.m q.d] 25)).below hb
                      replace hb := below1 _ hb
                      have Hs := Lib.hid haf
                      have Is := Lib.hid ho.In
                      replace Im := Lib.hid (Im.out.below hb)
                      replace Iq := Lib.hid (Iq.out.below hb)
                      replace hw := Lib.hid (below_trans' hw.out hb)
                      replace HV := Lib.hid (HV.out.below hb)
                      replace IP := Lib.hid (IP.out.below hb)
                      clear hb haf ho
                      dsimp only [FV.val]
                      have cx3 := fun o => (bxx.alloc o).at
                      by_cases hsm : 2 ≤ wn ∧ 2 ≤ hn'
                      case neg =>
                        have e0 := HNONE.out (by omega)
                        generalize (walkR v.f (rpL xn yn wn hn' (wn - 1 + (hn' - 1) + (wn - 1) + (hn' - 1) + 1))).1 = z3
                        generalize (walkR v.f (rpL xn yn wn hn' (wn - 1 + (hn' - 1) + (wn - 1) + (hn' - 1) + 1))).2 = z4
                        subst e0
                        by_cases h1 : wn < 2
                        · have h1' : (wn : Int) < 2 := by omega
                          clear hsm
                          go_wp2_with fail
                          go_ret
                          exact ⟨rfl, below_trans' hw.out (belowA _ _)⟩
                        · have h1' : ¬ (wn : Int) < 2 := by omega
                          have h2' : (hn' : Int) < 2 := by omega
                          clear hsm
                          go_wp2_with fail
                          go_ret
                          exact ⟨rfl, below_trans' hw.out (belowA _ _)⟩
                      rw [HWK.out hsm.1 hsm.2, inP_four, ← HI.out]
                      dsimp only
                      have h1' : ¬ (wn : Int) < 2 := by omega
                      have h2' : ¬ (hn' : Int) < 2 := by omega
                      have cm := fun o => (bm.alloc o).at
                      clear hsm
                      go_wp2_with fail
                      clear cm cx3
                      with_reducible refine (topTotal_any m _ (Im.out.below (belowA _ _))).mono ?_
                      rintro r wg ⟨rfl, hb⟩
                      rw [show tot (whorls m.f) = I by rw [Hm.out, tot_mir HVF.out, HTOT.out]]
                      have bs := (Box.new wf #[.int .i64 s.f.W, .int .i64 s.f.H, .slice s.A s.n s.c, .slice s.B s.m s.d] 25).below hb
                      replace bq := (bq.alloc (.cells #[.int .i64 s.f.W, .int .i64 s.f.H, .slice s.A s.n s.c, .slice s.B s.m s.d] 25)).below hb
                      replace bp := (bp.alloc (.cells #[.int .i64 s.f.W, .int .i64 s.f.H, .slice s.A s.n s.c, .slice s.B s.m s.d] 25)).below hb
                      replace hb := below1 _ hb
                      replace Iq := Lib.hid (Iq.out.below hb)
                      replace Is := Lib.hid (Is.out.below hb)
                      replace hw := Lib.hid (below_trans' hw.out hb)
                      replace HV := Lib.hid (HV.out.below hb)
                      replace IP := Lib.hid (IP.out.below hb)
                      clear hb
                      have cq := bq.at
                      go_wp2_with fail
                      clear cq
                      with_reducible refine (topTotal_any q _ Iq.out).mono ?_
                      rintro r wh ⟨rfl, hb⟩
                      rw [show tot (whorls q.f) = I by rw [Hq.out, tot_qua HVF.out, HTOT.out]]
                      replace bs := bs.below hb
                      replace bp := bp.below hb
                      replace Is := Lib.hid (Is.out.below hb)
                      replace hw := Lib.hid (below_trans' hw.out hb)
                      replace HV := Lib.hid (HV.out.below hb)
                      replace IP := Lib.hid (IP.out.below hb)
                      clear hb
                      have cs := bs.at
                      go_wp2_with fail
                      clear cs
                      with_reducible refine (topTotal_any s _ Is.out).mono ?_
                      rintro r wi ⟨rfl, hb⟩
                      rw [show tot (whorls s.f) = I by rw [Hs.out, tot_spin HVF.out, HTOT.out]]
                      replace bp := bp.below hb
                      replace hw := Lib.hid (below_trans' hw.out hb)
                      replace HV := Lib.hid (HV.out.below hb)
                      replace IP := Lib.hid (IP.out.below hb)
                      clear hb
                      have cp := bp.at
                      go_wp2_with fail
                      clear cp
                      with_reducible refine (refValidate_any ⟨⟨(wn : Int), (hn' : Int), D, Q⟩, A', B', n', c', m', d'⟩ _ IP.out).mono ?_
                      rintro r wj ⟨rfl, hb⟩
                      dsimp only
                      rw [HVF.out]
                      replace hw := Lib.hid (below_trans' hw.out hb)
                      replace HV := Lib.hid (HV.out.below hb)
                      replace IP := Lib.hid (IP.out.below hb)
                      clear hb
                      go_wp2_with fail
                      go_ret
                      exact ⟨rfl, hw.out⟩

theorem topWhorlsR (v : FV) (A : Option Addr) (n c : Nat) (l : List Plc) (x : Frm) (w : World) (hv : v.In w ∧ v.n ≤ v.c ∧ v.m ≤ v.d) (hl : (Reads w w.heap.size 2 A n (plcs l) ∧ n ≤ 9223372036854775807 ∧ ∀ q ∈ l, Bd q.1 ∧ Bd q.2) ∧ n ≤ c) {p1 : Prop} (_ : p1) :
    Calls Try.prog 16 #[v.val, .slice A n c, frval x] w fun r w' => r = .returned (.bool true) ∧ Below w.heap.size w w' := topWhorls v A n c l x w hv.1 hv.2.1 hl.1.1 hl.1.2.1 hl.2
end Go.Proofs.Ytahmdnboeenfkaa
