/- Merged texts: Rd Re Kb -/
import Derived.Test.YtihhclhpjgeniaaGreatDoorSB9
import Derived.Test.YtihhclhpjgeniaaGreatDoorSB15
import Derived.Maps.OwnSet
import Derived.Maps.Views
namespace Go.Proofs.YtihhclhpjgeniaaGreatDoor
structure Stp (r r' : Rm) : Prop where
 ok : r'.Ok
 day : r'.day = r.day
 few : ∀ n, r.Few n → r'.Few (n + 1)
theorem few_of {r r' : Rm} {x y : Int} (hx : x ≤ 1000000) (hy : -1000000 ≤ y ∧ y ≤ 1000000) (e1 : r'.bought = r.bought + x) (e2 : r'.cash = r.cash + y) : ∀ n, r.Few n → r'.Few (n + 1) := fun n h =>
 ⟨by have := h.bought; push_cast; omega, by have := h.cash; push_cast; omega⟩
theorem buy_stp {r : Rm} (k : r.Ok) {n : List UInt8} {a b c : Int} (ha : inN a) (hb : inN b) (hc : inN c) (h : (buyR r n a b c).1 = 0) : Stp r (buyR r n a b c).2 := by
 unfold buyR at h ⊢
 split at h
 ·cases h
 rename_i h1
 split at h
 ·cases h
 rename_i h2
 split at h
 ·cases h
 rename_i h3
 rw [if_neg h1, if_neg h2, if_neg h3]
 unfold inN at ha hb hc
 refine ⟨put_ok k (by simpa using h1) (by omega) (ofH_ok hb (by omega)) rfl rfl rfl rfl (by rw [ofH_cnt (by omega)]), rfl, few_of (x := b) (y := -c) (by omega) (by omega) rfl rfl⟩
theorem mix_stp {r : Rm} (k : r.Ok) {n m : List UInt8} (h : (mixR r n m).1 = 0) : Stp r (mixR r n m).2 := by
 unfold mixR at h ⊢
 cases h1 : r.bun n with
 | none => simp [h1] at h
 | some i =>
  cases h2 : r.bun m with
  | none => simp [h1, h2] at h
  | some j =>
   simp only [h1, h2] at h ⊢
   split at h
   ·cases h
   rename_i h3
   split at h
   ·rename_i h4; exact absurd h h4
   rename_i h4
   rw [if_neg h3, if_neg h4]
   obtain ⟨hi, _⟩ := bun_some h1
   obtain ⟨hj, _⟩ := bun_some h2
   have h4' : (mixH (r.hr i) (r.hr j)).1 = 0 := by omega
   obtain ⟨m1, m2⟩ := mix_ok (hr_ok k i) (hr_ok k j) h4'
   have hj2 : j < (r.setH i (mixH (r.hr i) (r.hr j)).2).bs.length := by simp [Rm.setH]; exact hj
   have hs := setH_hairs hi (mixH (r.hr i) (r.hr j)).2
   have hjo : (r.setH i (mixH (r.hr i) (r.hr j)).2).bs[j].2 = r.hr j := by
    have e := hr_at hj
    generalize (mixH (r.hr i) (r.hr j)).2 = c at hj2 ⊢
    rw [e]
    simp only [Rm.setH, List.getElem_modify, if_neg h3]
   refine ⟨⟨?_, ?_, k.nw, k.hw, ?_, k.uw, ?_, k.dw, k.lost, ?_⟩, rfl, few_of (x := 0) (y := 0) (by omega) (by omega) (by simp [Rm.setH]) (by simp [Rm.setH])⟩
   ·have := List.length_eraseIdx_le (r.setH i (mixH (r.hr i) (r.hr j)).2).bs j
    have e : (r.setH i (mixH (r.hr i) (r.hr j)).2).bs.length = r.bs.length := by simp [Rm.setH]
    have := k.nb
    show ((r.setH i (mixH (r.hr i) (r.hr j)).2).bs.eraseIdx j).length ≤ 12
    omega
   ·intro b hb
    have := setH_mem k m1 (List.mem_of_mem_eraseIdx hb)
    exact ⟨this.1, this.2.1⟩
   ·intro b hb
    exact (setH_mem k m1 (List.mem_of_mem_eraseIdx hb)).2.2
   ·have hd := k.db
    rw [← setH_names r i (mixH (r.hr i) (r.hr j)).2] at hd
    exact hd.sublist ((List.eraseIdx_sublist _ _).map _)
   ·have := k.bal
    show r.bought = r.lost + hairsB ((r.setH i (mixH (r.hr i) (r.hr j)).2).bs.eraseIdx j) + hairsW r.ws
    have e : hairsB ((r.setH i (mixH (r.hr i) (r.hr j)).2).bs.eraseIdx j) = hairsB (r.setH i (mixH (r.hr i) (r.hr j)).2).bs - (r.hr j).cnt := by
     unfold hairsB
     rw [sum_erase _ _ _ hj2, hjo]
    omega
theorem setH_bs_len (r : Rm) (i : Nat) (h : Hr) : (r.setH i h).bs.length = r.bs.length := by simp [Rm.setH]
theorem draw_stp {r : Rm} (k : r.Ok) {n m : List UInt8} {a : Int} (h : (drawR r n m a).1 = 0) : Stp r (drawR r n m a).2 := by
 unfold drawR at h ⊢
 cases h1 : r.bun n with
 | none => simp [h1] at h
 | some i =>
  simp only [h1] at h ⊢
  split at h
  ·cases h
  rename_i h2
  split at h
  ·cases h
  rename_i h3
  split at h
  ·rename_i h4; exact absurd h h4
  rename_i h4
  rw [if_neg h2, if_neg h3, if_neg h4]
  obtain ⟨hi, _⟩ := bun_some h1
  obtain ⟨d1, d2, d3⟩ := draw_ok (hr_ok k i) a (by omega)
  have h2' : r.fresh m = true := by simpa using h2
  refine ⟨⟨?_, ?_, k.nw, k.hw, ?_, ?_, ?_, k.dw, k.lost, ?_⟩, rfl, few_of (x := 0) (y := 0) (by omega) (by omega) (by simp [Rm.setH, Rm.put]) (by simp [Rm.setH, Rm.put])⟩
  ·show ((r.setH i _).bs ++ [_]).length ≤ 12
   rw [List.length_append, setH_bs_len]; simp; omega
  ·intro b hb
   rcases List.mem_append.1 hb with hb | hb
   ·have := setH_mem k d2 hb; exact ⟨this.1, this.2.1⟩
   ·rw [List.mem_singleton.1 hb]; exact ⟨(fresh_iff.1 h2').1, d1⟩
  ·intro b hb
   rcases List.mem_append.1 hb with hb | hb
   ·exact List.mem_append_left _ (setH_mem k d2 hb).2.2
   ·rw [List.mem_singleton.1 hb]; exact List.mem_append_right _ (by simp)
  ·intro w hw; exact List.mem_append_left _ (k.uw w hw)
  ·show (((r.setH i (drawH (r.hr i) a).2.2).bs ++ [(m, (drawH (r.hr i) a).2.1)]).map (·.1)).Nodup
   rw [List.map_append, setH_names, List.nodup_append]
   refine ⟨k.db, by simp, ?_⟩
   intro x hx y hy
   simp only [List.map_cons, List.map_nil, List.mem_singleton] at hy
   subst hy
   obtain ⟨z, hz, rfl⟩ := List.mem_map.1 hx
   exact fun e => (fresh_iff.1 h2').2 (by rw [← e]; exact k.ub z hz)
  ·have := k.bal
   have hs := setH_hairs hi (drawH (r.hr i) a).2.2
   have e : hairsB ((r.setH i (drawH (r.hr i) a).2.2).bs ++ [(m, (drawH (r.hr i) a).2.1)]) = hairsB (r.setH i (drawH (r.hr i) a).2.2).bs + (drawH (r.hr i) a).2.1.cnt := by simp [hairsB]
   show r.bought = r.lost + hairsB ((r.setH i (drawH (r.hr i) a).2.2).bs ++ [(m, (drawH (r.hr i) a).2.1)]) + hairsW r.ws
   omega
theorem hack_stp {r : Rm} (k : r.Ok) {n : List UInt8} {a : Int} (h : (hackR r n a).1 = 0) : Stp r (hackR r n a).2 := by
 unfold hackR at h ⊢
 cases h1 : r.bun n with
 | none => simp [h1] at h
 | some i =>
  simp only [h1] at h ⊢
  split at h
  ·rename_i h4; exact absurd h h4
  rename_i h4
  rw [if_neg h4]
  obtain ⟨hi, _⟩ := bun_some h1
  obtain ⟨d1, d2, d3⟩ := hack_ok (hr_ok k i) a (by omega)
  have := d2.cnt
  have := k.lost
  have q : (hackH (r.hr i) a).2.2.cnt = cntH (hackH (r.hr i) a).2.2.op := rfl
  refine ⟨setH_ok k hi d1 rfl rfl rfl ?_ ?_, rfl, few_of (x := 0) (y := 0) (by omega) (by omega) (by simp [Rm.setH]) (by simp [Rm.setH])⟩
  ·show 0 ≤ r.lost + cntH (hackH (r.hr i) a).2.2.op; omega
  ·show r.bought - (r.lost + cntH (hackH (r.hr i) a).2.2.op) = r.bought - r.lost + (hackH (r.hr i) a).2.1.cnt - (r.hr i).cnt; omega
theorem turn_stp {r : Rm} (k : r.Ok) {n : List UInt8} (h : (turnR r n).1 = 0) : Stp r (turnR r n).2 := by
 unfold turnR at h ⊢
 cases h1 : r.bun n with
 | none => simp [h1] at h
 | some i =>
  simp only [h1] at h ⊢
  split at h
  ·rename_i h4; exact absurd h h4
  rename_i h4
  rw [if_neg h4]
  obtain ⟨hi, _⟩ := bun_some h1
  obtain ⟨d1, d2⟩ := turn_ok (hr_ok k i) (by omega)
  refine ⟨setH_ok k hi d1 rfl rfl rfl k.lost ?_, rfl, few_of (x := 0) (y := 0) (by omega) (by omega) (by simp [Rm.setH]) (by simp [Rm.setH])⟩
  show r.bought - r.lost = r.bought - r.lost + _ - _; omega
theorem snap_stp {r : Rm} (k : r.Ok) {n : List UInt8} {a b c : Int} (hc : inN c) (h : (snapR r n a b c).1 = 0) : Stp r (snapR r n a b c).2 := by
 unfold snapR at h ⊢
 cases h1 : r.bun n with
 | none => simp [h1] at h
 | some i =>
  simp only [h1] at h ⊢
  split at h
  ·rename_i h4; exact absurd h h4
  rename_i h4
  rw [if_neg h4]
  obtain ⟨hi, _⟩ := bun_some h1
  obtain ⟨d1, d2, d3⟩ := snap_ok (hr_ok k i) a b c (by omega)
  unfold inN at hc
  refine ⟨setH_ok k hi d1 rfl rfl rfl k.lost ?_, rfl, few_of (x := c) (y := 0) (by omega) (by omega) rfl (by simp [Rm.setH])⟩
  show r.bought + c - r.lost = r.bought - r.lost + _ - _; omega
theorem newW_ok {n b : List UInt8} {c l : Int} (hn : okName n = true) (hb : okName b = true) (hc : 1 ≤ c ∧ c ≤ 1000000) (hl : 1 ≤ l ∧ l ≤ 24) : (newW n b c l).Ok :=
 ⟨hn, hb, hc, ⟨by simp [newW], by simp only [newW]; omega⟩, ⟨by simp [newW], by simp only [newW]; omega⟩, hl, by simp [newW], by simp [newW], by simp [newW], by show okW (mkB []) = true; decide, by simp [newW], by simp [newW], val_zero.1 (by simp only [newW]; decide)⟩
theorem begin_stp {r : Rm} (k : r.Ok) {n m : List UInt8} {a b : Int} (ha : inN a) (h : (beginR r n m a b).1 = 0) : Stp r (beginR r n m a b).2 := by
 unfold beginR at h ⊢
 split at h
 ·cases h
 rename_i h0
 cases h1 : r.bun m with
 | none => simp [h1] at h
 | some i =>
  simp only [h1] at h ⊢
  split at h
  ·cases h
  rename_i h2
  split at h
  ·cases h
  rename_i h3
  split at h
  ·rename_i h4; exact absurd h h4
  rename_i h4
  rw [if_neg h0, if_neg h2, if_neg h3, if_neg h4]
  obtain ⟨hi, hin⟩ := bun_some h1
  unfold inN at ha
  obtain ⟨d1, d2⟩ := cut_ok (hr_ok k i) (ofH_ok (count := a) (len := b) (by unfold inN; omega) (by omega)) (by omega)
  rw [ofH_cnt (by omega)] at d2
  have h0' := fresh_iff.1 (show r.fresh n = true by simpa using h0)
  have hm : okName m = true := by rw [← hin]; exact (k.hb _ (List.getElem_mem hi)).1
  have hs := setH_hairs hi (cutH (r.hr i) (ofH a b)).2
  refine ⟨⟨?_, ?_, ?_, ?_, ?_, ?_, ?_, ?_, k.lost, ?_⟩, rfl, few_of (x := 0) (y := 0) (by omega) (by omega) (by simp [Rm.setH]) (by simp [Rm.setH])⟩
  ·show (r.setH i _).bs.length ≤ 12
   rw [setH_bs_len]; exact k.nb
  ·intro x hx; have := setH_mem k d1 hx; exact ⟨this.1, this.2.1⟩
  ·show (r.ws ++ [_]).length ≤ 12
   simp; omega
  ·intro x hx
   rcases List.mem_append.1 hx with hx | hx
   ·exact k.hw x hx
   ·rw [List.mem_singleton.1 hx]; exact newW_ok h0'.1 hm (by omega) (by omega)
  ·intro x hx; exact List.mem_append_left _ (setH_mem k d1 hx).2.2
  ·intro x hx
   rcases List.mem_append.1 hx with hx | hx
   ·exact List.mem_append_left _ (k.uw x hx)
   ·rw [List.mem_singleton.1 hx]; exact List.mem_append_right _ (by simp [newW])
  ·show ((r.setH i _).bs.map (·.1)).Nodup
   rw [setH_names]; exact k.db
  ·show ((r.ws ++ [newW n m a b]).map (·.name)).Nodup
   rw [List.map_append, List.nodup_append]
   refine ⟨k.dw, by simp, ?_⟩
   intro x hx y hy
   simp only [List.map_cons, List.map_nil, List.mem_singleton] at hy
   subst hy
   obtain ⟨z, hz, rfl⟩ := List.mem_map.1 hx
   exact fun e => h0'.2 (by have := k.uw z hz; rw [e] at this; exact this)
  ·have := k.bal
   have e : hairsW (r.ws ++ [newW n m a b]) = hairsW r.ws + a := by simp [hairsW, newW]
   show r.bought = r.lost + hairsB (r.setH i (cutH (r.hr i) (ofH a b)).2).bs + hairsW (r.ws ++ [newW n m a b])
   omega
theorem inW_zero {r : Rm} {n : List UInt8} {s : Int} (h : (inW r n s).1 = 0) : r.ws[(inW r n s).2.1]? = some (inW r n s).2.2 ∧ (inW r n s).2.2.state = s := by
 unfold inW at h ⊢
 split at h
 ·cases h
 ·rename_i i h1
  split at h
  ·cases h
  ·rename_i w h2
   split at h
   ·rename_i h3
    simp only [h2, h3, if_true]
    exact ⟨trivial, trivial⟩
   ·cases h
theorem wOk {r : Rm} (k : r.Ok) {i : Nat} {w : Wg} (h : r.ws[i]? = some w) : w.Ok := k.hw w (List.mem_of_getElem? h)
theorem knot_stp {r : Rm} (k : r.Ok) {n : List UInt8} {a : Int} (ha : inN a) (h : (knotR r n a).1 = 0) : Stp r (knotR r n a).2 := by
 unfold knotR at h ⊢
 split at h
 ·rename_i h1; exact absurd h h1
 rename_i h1
 split at h
 ·cases h
 rename_i h2
 rw [if_neg h1, if_neg h2]
 obtain ⟨p1, p2⟩ := inW_zero (show (inW r n 0).1 = 0 by omega)
 have kw := wOk k p1
 generalize (inW r n 0).2.2 = w at *
 generalize (inW r n 0).2.1 = i at *
 unfold inN at ha
 have hd := kw.done
 refine ⟨setW_ok k p1 (w' := { w with done := w.done + a, state := if w.done + a = w.hairs then 1 else 0 }) ⟨kw.nm, kw.bn, kw.hairs, ⟨?_, ?_⟩, kw.shed, kw.len, kw.lvl, kw.tone, kw.bl, kw.plait, ?_, kw.price, kw.card⟩ rfl rfl rfl rfl k.lost ?_, rfl, few_of (x := 0) (y := 0) (by omega) (by omega) (by simp [Rm.setW]) (by simp [Rm.setW])⟩
 ·show 0 ≤ w.done + a; omega
 ·show w.done + a ≤ w.hairs; omega
 ·show 0 ≤ (if w.done + a = w.hairs then (1 : Int) else 0) ∧ (if w.done + a = w.hairs then (1 : Int) else 0) ≤ 3
  split <;> omega
 ·show r.bought - r.lost = r.bought - r.lost + (w.hairs - w.shed) - (w.hairs - w.shed); omega
theorem lend_stp {r : Rm} (k : r.Ok) {n : List UInt8} (h : (lendR r n).1 = 0) : Stp r (lendR r n).2 := by
 unfold lendR at h ⊢
 split at h
 ·rename_i h1; exact absurd h h1
 rename_i h1
 rw [if_neg h1]
 obtain ⟨p1, p2⟩ := inW_zero (show (inW r n 1).1 = 0 by omega)
 have kw := wOk k p1
 generalize (inW r n 1).2.2 = w at *
 generalize (inW r n 1).2.1 = i at *
 refine ⟨setW_ok k p1 (w' := { w with state := 2 }) ⟨kw.nm, kw.bn, kw.hairs, kw.done, kw.shed, kw.len, kw.lvl, kw.tone, kw.bl, kw.plait, by show (0 : Int) ≤ 2 ∧ (2 : Int) ≤ 3; omega, kw.price, kw.card⟩ rfl rfl rfl rfl k.lost ?_, rfl, few_of (x := 0) (y := 0) (by omega) (by omega) (by simp [Rm.setW]) (by simp [Rm.setW])⟩
 show r.bought - r.lost = r.bought - r.lost + (w.hairs - w.shed) - (w.hairs - w.shed); omega
theorem sell_stp {r : Rm} (k : r.Ok) {n : List UInt8} {a : Int} (ha : inN a) (h : (sellR r n a).1 = 0) : Stp r (sellR r n a).2 := by
 unfold sellR at h ⊢
 split at h
 ·rename_i h1; exact absurd h h1
 rename_i h1
 split at h
 ·cases h
 rename_i h2
 rw [if_neg h1, if_neg h2]
 obtain ⟨p1, p2⟩ := inW_zero (show (inW r n 1).1 = 0 by omega)
 have kw := wOk k p1
 generalize (inW r n 1).2.2 = w at *
 generalize (inW r n 1).2.1 = i at *
 unfold inN at ha
 refine ⟨setW_ok k p1 (w' := { w with state := 3, price := a }) ⟨kw.nm, kw.bn, kw.hairs, kw.done, kw.shed, kw.len, kw.lvl, kw.tone, kw.bl, kw.plait, by show (0 : Int) ≤ 3 ∧ (3 : Int) ≤ 3; omega, ha, kw.card⟩ rfl rfl rfl rfl k.lost ?_, rfl, few_of (x := 0) (y := a) (by omega) (by omega) (by simp [Rm.setW]) rfl⟩
 show r.bought - r.lost = r.bought - r.lost + (w.hairs - w.shed) - (w.hairs - w.shed); omega
theorem claim_stp {r : Rm} (k : r.Ok) {n : List UInt8} (h : (claimR r n).1 = 0) : Stp r (claimR r n).2 := by
 unfold claimR at h ⊢
 split at h
 ·rename_i h1; exact absurd h h1
 rename_i h1
 split at h
 ·cases h
 rename_i h2
 rw [if_neg h1, if_neg h2]
 obtain ⟨p1, p2⟩ := inW_zero (show (inW r n 3).1 = 0 by omega)
 have kw := wOk k p1
 generalize (inW r n 3).2.2 = w at *
 generalize (inW r n 3).2.1 = i at *
 have hp := kw.price
 refine ⟨setW_ok k p1 (w' := { w with state := 1, price := 0 }) ⟨kw.nm, kw.bn, kw.hairs, kw.done, kw.shed, kw.len, kw.lvl, kw.tone, kw.bl, kw.plait, by show (0 : Int) ≤ 1 ∧ (1 : Int) ≤ 3; omega, by show (0 : Int) ≤ 0 ∧ (0 : Int) ≤ 1000000; omega, kw.card⟩ rfl rfl rfl rfl k.lost ?_, rfl, few_of (x := 0) (y := -w.price) (by omega) (by omega) (by simp [Rm.setW]) rfl⟩
 show r.bought - r.lost = r.bought - r.lost + (w.hairs - w.shed) - (w.hairs - w.shed); omega
theorem add_card {c : List Ent} {p : Int} {t : ByteArray} (h : addE c p t = 0) : Card (addR c p t) := by
 obtain ⟨h1, h2, h3, h4, h5⟩ := addE_zero.1 h
 exact card_add h1 h2 h3 h4 h5
theorem back_stp {r : Rm} (k : r.Ok) {n : List UInt8} {a : Int} (ha : inN a) (h : (backR r n a).1 = 0) : Stp r (backR r n a).2 := by
 unfold backR at h ⊢
 split at h
 ·rename_i h1; exact absurd h h1
 rename_i h1
 split at h
 ·cases h
 rename_i h2
 split at h
 ·rename_i h3; exact absurd h h3
 rename_i h3
 rw [if_neg h1, if_neg h2, if_neg h3]
 obtain ⟨p1, p2⟩ := inW_zero (show (inW r n 2).1 = 0 by omega)
 have kw := wOk k p1
 generalize (inW r n 2).2.2 = w at *
 generalize (inW r n 2).2.1 = i at *
 unfold inN at ha
 have hs := kw.shed
 have hk := k.lost
 generalize mkB (tSh ++ Lib.itoa a) = t at *
 have hc := add_card (show addE w.card 1 t = 0 by omega)
 refine ⟨setW_ok k p1 (w' := { w with state := 1, shed := w.shed + a, card := addR w.card 1 t }) ⟨kw.nm, kw.bn, kw.hairs, kw.done, ⟨by show 0 ≤ w.shed + a; omega, by show w.shed + a ≤ w.hairs; omega⟩, kw.len, kw.lvl, kw.tone, kw.bl, kw.plait, by show (0 : Int) ≤ 1 ∧ (1 : Int) ≤ 3; omega, kw.price, hc⟩ rfl rfl rfl rfl ?_ ?_, rfl, few_of (x := 0) (y := 0) (by omega) (by omega) (by simp [Rm.setW]) (by simp [Rm.setW])⟩
 ·show 0 ≤ r.lost + a; omega
 ·show r.bought - (r.lost + a) = r.bought - r.lost + (w.hairs - (w.shed + a)) - (w.hairs - w.shed); omega
theorem mend_stp {r : Rm} (k : r.Ok) {n m : List UInt8} {a : Int} (ha : inN a) (h : (mendR r n m a).1 = 0) : Stp r (mendR r n m a).2 := by
 unfold mendR at h ⊢
 split at h
 ·rename_i h1; exact absurd h h1
 rename_i h1
 cases h5 : r.bun m with
 | none => simp [h5] at h
 | some j =>
  simp only [h5] at h ⊢
  split at h
  ·cases h
  rename_i h2
  split at h
  ·rename_i h3; exact absurd h h3
  rename_i h3
  split at h
  ·rename_i h4; exact absurd h h4
  rename_i h4
  rw [if_neg h1, if_neg h2, if_neg h3, if_neg h4]
  obtain ⟨hj, _⟩ := bun_some h5
  obtain ⟨p1, p2⟩ := inW_zero (show (inW r n 1).1 = 0 by omega)
  have kw := wOk k p1
  generalize (inW r n 1).2.2 = w at *
  generalize (inW r n 1).2.1 = i at *
  unfold inN at ha
  have hs := kw.shed
  generalize mkB (tMe ++ Lib.itoa a) = t at *
  have hc := add_card (show addE w.card 0 t = 0 by omega)
  obtain ⟨d1, d2⟩ := cut_ok (hr_ok k j) (ofH_ok (count := a) (len := w.len) (by unfold inN; omega) kw.len) (by omega)
  rw [ofH_cnt kw.len] at d2
  have hb := setH_hairs hj (cutH (r.hr j) (ofH a w.len)).2
  generalize (cutH (r.hr j) (ofH a w.len)).2 = c at *
  -- the bundle first, as if its hairs were lost for a while
  have k1 : ({ r.setH j c with lost := r.lost + a } : Rm).Ok := setH_ok k hj d1 rfl rfl rfl (by have := k.lost; show 0 ≤ r.lost + a; omega) (by show r.bought - (r.lost + a) = r.bought - r.lost + c.cnt - (r.hr j).cnt; omega)
  refine ⟨setW_ok k1 (i := i) (w := w) p1 (w' := { w with shed := w.shed - a, card := addR w.card 0 t }) ⟨kw.nm, kw.bn, kw.hairs, kw.done, ⟨by show 0 ≤ w.shed - a; omega, by show w.shed - a ≤ w.hairs; omega⟩, kw.len, kw.lvl, kw.tone, kw.bl, kw.plait, kw.state, kw.price, hc⟩ rfl rfl rfl rfl k.lost ?_, rfl, few_of (x := 0) (y := 0) (by omega) (by omega) (by simp [Rm.setW, Rm.setH]) (by simp [Rm.setW, Rm.setH])⟩
  show r.bought - r.lost = r.bought - (r.lost + a) + (w.hairs - (w.shed - a)) - (w.hairs - w.shed); omega
structure Wrk (w w' : Wg) : Prop where
 name : w'.name = w.name
 hairs : w'.hairs = w.hairs
 shed : w'.shed = w.shed
 card : w'.card = w.card
 ok : w'.Ok
theorem join_ok {u v : ByteArray} (h : (joinR u v).2 = 0) : okW (mkB (joinR u v).1) = true := by
 unfold joinR at h ⊢
 split at h
 ·rename_i h1
  split at h
  ·cases h
  ·rename_i h2
   rw [if_pos h1, if_neg h2]
   obtain ⟨a1, a2⟩ := okW_iff.1 h1.1
   obtain ⟨b1, b2⟩ := okW_iff.1 h1.2
   refine okW_iff.2 ⟨?_, ?_⟩
   ·rw [← append_li, ByteArray.size_append]; omega
   ·rw [li_mk]
    intro c hc
    rcases List.mem_append.1 hc with hc | hc
    ·exact a2 c hc
    ·exact b2 c hc
 ·cases h
theorem dress_ok {w : Wg} (k : w.Ok) {o : Ordr} (ho : OrdS o) (h : (dressW o w).1.1 = 0) : Wrk w (dressW o w).1.2 := by
 have same : Wrk w w := ⟨rfl, rfl, rfl, rfl, k⟩
 unfold dressW at h ⊢
 split at h
 ·unfold bleachW at h ⊢
  split at h
  ·cases h
  ·rename_i h2
   rw [if_neg h2]
   have := k.lvl; have := k.bl
   exact ⟨rfl, rfl, rfl, rfl, k.nm, k.bn, k.hairs, k.done, k.shed, k.len, by show 1 ≤ min (w.lvl + 2) 10 ∧ min (w.lvl + 2) 10 ≤ 10; omega, by show (0 : Int) ≤ 0 ∧ (0 : Int) ≤ 5; omega, by show 0 ≤ w.bl + 1 ∧ w.bl + 1 ≤ 3; omega, k.plait, k.state, k.price, k.card⟩
 ·rename_i l t h1 h2
  unfold dyeW' at h ⊢
  split at h
  ·cases h
  ·rename_i h3
   split at h
   ·cases h
   ·rename_i h4
    rw [if_neg h3, if_neg h4]
    exact ⟨rfl, rfl, rfl, rfl, k.nm, k.bn, k.hairs, k.done, k.shed, k.len, by show 1 ≤ l ∧ l ≤ 10; omega, by show 0 ≤ t ∧ t ≤ 5; omega, k.bl, k.plait, k.state, k.price, k.card⟩
 ·unfold plaitW at h ⊢
  split at h
  ·rename_i h2; exact absurd h h2
  ·rename_i h2
   split at h
   ·rename_i h3; exact absurd h h3
   ·rename_i h3
    rw [if_neg h2, if_neg h3]
    exact ⟨rfl, rfl, rfl, rfl, k.nm, k.bn, k.hairs, k.done, k.shed, k.len, k.lvl, k.tone, k.bl, join_ok (by omega), k.state, k.price, k.card⟩
 ·exact ⟨rfl, rfl, rfl, rfl, k.nm, k.bn, k.hairs, k.done, k.shed, k.len, k.lvl, k.tone, k.bl, by show okW (mkB []) = true; decide, k.state, k.price, k.card⟩
 ·rename_i n h1 h2
  unfold trimW at h ⊢
  split at h
  ·cases h
  ·rename_i h3
   rw [if_neg h3]
   have := k.len
   have hn : inN n := by
    cases ho with
    | nccc => simp at h2
    | nn => simp at h2
    | ncn => simp at h1
    | nc k n' a hk hn ha => simp only [List.cons.injEq, and_true] at h2; rw [← h2]; exact ha
    | n => simp at h2
    | nncc => simp at h2
    | ncc => simp at h2
    | ns => simp at h2
    | nnc => simp at h1
   unfold inN at hn
   exact ⟨rfl, rfl, rfl, rfl, k.nm, k.bn, k.hairs, k.done, k.shed, by show 1 ≤ w.len - n ∧ w.len - n ≤ 24; omega, k.lvl, k.tone, k.bl, k.plait, k.state, k.price, k.card⟩
 ·exact same
theorem work_stp {r : Rm} (k : r.Ok) {o : Ordr} (ho : OrdS o) {n : List UInt8} (h : (workR r o n).1 = 0) : Stp r (workR r o n).2 := by
 unfold workR at h ⊢
 split at h
 ·rename_i h1; exact absurd h h1
 rename_i h1
 split at h
 ·rename_i h2; exact absurd h h2
 rename_i h2
 rw [if_neg h1, if_neg h2]
 obtain ⟨p1, p2⟩ := inW_zero (show (inW r n 1).1 = 0 by omega)
 have kw := wOk k p1
 generalize (inW r n 1).2.2 = w at *
 generalize (inW r n 1).2.1 = i at *
 have hd := dress_ok kw ho (by omega)
 generalize (dressW o w).1.2 = w' at *
 generalize mkB (dressW o w).2 = t at *
 unfold writeR at h ⊢
 split at h
 ·rename_i h3; exact absurd h h3
 rename_i h3
 rw [if_neg h3]
 generalize mkB (dressW o w).2 = t at *
 have hc := add_card (show addE w'.card 0 t = 0 by omega)
 have kw' := hd.ok
 refine ⟨setW_ok k p1 (w' := { w' with card := addR w'.card 0 t }) ⟨kw'.nm, kw'.bn, kw'.hairs, kw'.done, kw'.shed, kw'.len, kw'.lvl, kw'.tone, kw'.bl, kw'.plait, kw'.state, kw'.price, hc⟩ hd.name rfl rfl rfl k.lost ?_, rfl, few_of (x := 0) (y := 0) (by omega) (by omega) (by simp [Rm.setW]) (by simp [Rm.setW])⟩
 show r.bought - r.lost = r.bought - r.lost + (w'.hairs - w'.shed) - (w.hairs - w.shed)
 rw [hd.hairs, hd.shed]; omega
theorem doO_stp {r : Rm} (k : r.Ok) {o : Ordr} (ho : OrdS o) (h : (doO r o).1 = 0) : Stp r (doO r o).2 := by
 cases ho with
 | nccc k' n a b c hk hn ha hb hc =>
  rcases hk with rfl | rfl
  ·exact buy_stp k ha hb hc h
  ·exact snap_stp k hc h
 | nn n m hn hm => exact mix_stp k h
 | ncn n m a hn hm ha => exact draw_stp k h
 | nc k' n a hk hn ha =>
  rcases hk with rfl | rfl | rfl | rfl | rfl
  ·exact hack_stp k h
  ·exact knot_stp k ha h
  ·exact work_stp k (.nc 12 n a (by omega) hn ha) h
  ·exact back_stp k ha h
  ·exact sell_stp k ha h
 | n k' n hk hn =>
  rcases hk with rfl | rfl | rfl | rfl | rfl | rfl
  ·exact turn_stp k h
  ·exact work_stp k (.n 8 n (by omega) hn) h
  ·exact work_stp k (.n 11 n (by omega) hn) h
  ·exact work_stp k (.n 13 n (by omega) hn) h
  ·exact lend_stp k h
  ·exact claim_stp k h
 | nncc n m a b hn hm ha hb => exact begin_stp k ha h
 | ncc n a b hn ha hb => exact work_stp k (.ncc n a b hn ha hb) h
 | ns n s hn hs => exact work_stp k (.ns n s hn hs) h
 | nnc n m a hn hm ha => exact mend_stp k ha h
structure Rm.Good (r : Rm) : Prop where
 ok : r.Ok
 few : r.Few r.day.length
 day : r.day.length ≤ 300
 lines : ∀ t ∈ r.day, 1 ≤ t.length ∧ t.length ≤ 60
 again : runR r.day rm0 = r
 done : ∀ i, (h : i < r.day.length) → (doR r.day[i] (runR (r.day.take i) rm0)).1 = 0
theorem rm0_good : rm0.Good := ⟨rm0_ok, ⟨by simp [rm0], by simp [rm0]⟩, by simp [rm0], by simp [rm0], rfl, fun i h => by simp [rm0] at h⟩
theorem doR_zero {t : List UInt8} {r : Rm} (h : (doR t r).1 = 0) : ∃ o, parseO t = some o ∧ r.day.length < 300 ∧ (doO r o).1 = 0 ∧ (doR t r).2 = { (doO r o).2 with day := (doO r o).2.day ++ [t] } := by
 unfold doR at h ⊢
 split at h
 ·cases h
 ·rename_i o ho
  split at h
  ·cases h
  ·rename_i h1
   split at h
   ·rename_i h2; exact absurd h h2
   ·rename_i h2
    simp only [ho]
    rw [if_neg h1, if_neg h2]
    exact ⟨o, rfl, by omega, by omega, rfl⟩
theorem good_step {r : Rm} (g : r.Good) {t : List UInt8} (h : (doR t r).1 = 0) : (doR t r).2.Good ∧ (doR t r).2.day = r.day ++ [t] := by
 obtain ⟨o, h1, h2, h3, h4⟩ := doR_zero h
 obtain ⟨f1, f2, f3⟩ := parseO_form h1
 have s := doO_stp g.ok f1 h3
 have hd : (doR t r).2.day = r.day ++ [t] := by rw [h4]; show (doO r o).2.day ++ [t] = _; rw [s.day]
 have e := s.ok
 refine ⟨⟨?_, ?_, by rw [hd]; simp; omega, ?_, ?_, ?_⟩, hd⟩
 ·rw [h4]; exact ⟨e.nb, e.hb, e.nw, e.hw, e.ub, e.uw, e.db, e.dw, e.lost, e.bal⟩
 ·have := s.few _ g.few
  rw [hd, h4]
  simp only [List.length_append, List.length_singleton]
  exact ⟨this.bought, this.cash⟩
 ·rw [hd]
  intro x hx
  rcases List.mem_append.1 hx with hx | hx
  ·exact g.lines x hx
  ·rw [List.mem_singleton.1 hx]; exact ⟨f2, f3⟩
 ·rw [hd, runR_snoc, g.again]
 ·intro i hi
  simp only [hd] at hi ⊢
  simp only [List.length_append, List.length_singleton] at hi
  rcases Nat.lt_or_ge i r.day.length with hl | hl
  ·rw [List.getElem_append_left hl, List.take_append_of_le_length (by omega)]
   exact g.done i hl
  ·have : i = r.day.length := by omega
   subst this
   rw [List.getElem_append_right (Nat.le_refl _), List.take_append_of_le_length (Nat.le_refl _), List.take_of_length_le (Nat.le_refl _), g.again]
   simpa using h
theorem good_do {r : Rm} (g : r.Good) (t : List UInt8) : (doR t r).2.Good := by
 by_cases h : (doR t r).1 = 0
 ·exact (good_step g h).1
 ·rw [doR_refused h]; exact g
end Go.Proofs.YtihhclhpjgeniaaGreatDoor
namespace Go.Proofs.YtihhclhpjgeniaaGreatDoor
theorem tail_feed {u : List UInt8} {l : Nat} {w : List UInt8} (h : (10 : UInt8) ∈ u) : (10 : UInt8) ∈ (pTail u l w).1 := by
 unfold pTail
 split
 ·cases h
 ·rename_i c v
  split
  ·rename_i hd
   rcases List.mem_cons.1 h with e | h
   ·rw [← e] at hd; exact absurd hd (by decide)
   ·exact h
  ·exact h
theorem drop_feed {s : List UInt8} (h : (10 : UInt8) ∈ s) : (10 : UInt8) ∈ s.dropWhile isSign := by
 induction s with
 | nil => cases h
 | cons c s ih =>
  rw [List.dropWhile_cons]
  split
  ·rename_i hc
   rcases List.mem_cons.1 h with e | h
   ·rw [← e] at hc; exact absurd hc (by decide)
   ·exact ih h
  ·exact h
theorem one_feed {inner : List UInt8 → Option PR} (hi : ∀ t r, inner t = some r → (10 : UInt8) ∈ t → (10 : UInt8) ∈ r.1) {s : List UInt8} {r : PR} (h : pOne inner s = some r) (hs : (10 : UInt8) ∈ s) : (10 : UInt8) ∈ r.1 := by
 unfold pOne at h
 have hd := drop_feed hs
 split at h
 ·cases h
 ·rename_i c t he
  rw [he] at hd
  split at h
  ·rename_i hl
   injection h with h
   subst h
   rcases List.mem_cons.1 hd with e | hd
   ·rw [← e] at hl; exact absurd hl (by decide)
   ·exact hd
  ·split at h
   ·rename_i hp
    split at h
    ·rename_i u l w hin
     injection h with h
     subst h
     rcases List.mem_cons.1 hd with e | hd
     ·rw [← e] at hp; exact absurd hp (by decide)
     ·have := hi t _ hin hd
      rcases List.mem_cons.1 this with e | h2
      ·exact absurd e (by decide)
      ·exact tail_feed h2
    ·cases h
   ·cases h
theorem items_feed : ∀ (f d : Nat) (s : List UInt8) (r : PR), pItems f d s = some r → (10 : UInt8) ∈ s → (10 : UInt8) ∈ r.1
 | 0, _, _, _, h, _ => by cases h
 | f + 1, d, s, r, h, hs => by
  unfold pItems at h
  split at h
  ·cases hs
  ·rename_i c u
   split at h
   ·injection h with h; subst h; exact hs
   ·split at h
    ·cases h
    ·rename_i r1 l1 w1 h1
     split at h
     ·cases h
     ·rename_i r2 l2 w2 h2
      injection h with h
      subst h
      show (10 : UInt8) ∈ (r2, l2, w2).1
      refine items_feed f d r1 (r2, l2, w2) h2 (one_feed ?_ h1 hs)
      intro t r ht hm
      split at ht
      ·exact items_feed f (d + 1) t r ht hm
      ·cases ht
theorem style_feed {s : List UInt8} (h : (pStyle s).2 = 0) : (10 : UInt8) ∉ s := by
 intro hm
 unfold pStyle at h
 split at h
 ·cases h
 ·split at h
  ·rename_i L W he
   have := items_feed _ _ _ _ he hm
   cases this
  ·cases h
theorem letW_feed {w : List UInt8} (h : letW w = true) : (10 : UInt8) ∉ w := by
 intro hm
 simp only [letW, Bool.and_eq_true, List.all_eq_true] at h
 exact absurd (h.2 _ hm) (by decide)
theorem numV_feed {w : List UInt8} {n : Int} (h : numV w = some n) : (10 : UInt8) ∉ w := by
 intro hm
 unfold numV at h
 split at h
 ·cases h
 ·split at h
  ·rename_i ha
   rw [List.all_eq_true] at ha
   exact absurd (ha _ hm) (by decide)
  ·cases h
theorem cmd_feed {w : List UInt8} {k : Nat} {f : List Nat} (h : cmdOf w = some (k, f)) : (10 : UInt8) ∉ w := by
 have := cmd_mem h
 have all : ∀ x ∈ cmds, (10 : UInt8) ∉ x.1 := by decide
 exact all _ this
theorem read_feed : ∀ (fs : List Nat) (ws : List (List UInt8)) (o o' : Ordr), (∀ f ∈ fs, f = 0 ∨ f = 1) → ws.length = fs.length → readO o fs ws = some o' → ∀ w ∈ ws, (10 : UInt8) ∉ w
 | [], [], _, _, _, _, _ => by simp
 | [], _ :: _, _, _, _, h, _ => by simp at h
 | _ :: _, [], _, _, _, h, _ => by simp at h
 | f :: fs, w :: ws, o, o', hf, hl, h => by
  obtain ⟨x, h1, h2⟩ := readO_some h
  have ih := read_feed fs ws x o' (fun g hg => hf g (List.mem_cons_of_mem _ hg)) (by simpa using hl) h2
  intro y hy
  rcases List.mem_cons.1 hy with rfl | hy
  ·rcases hf f List.mem_cons_self with rfl | rfl
   ·exact letW_feed (put0 h1).1
   ·unfold putW at h1
    rw [if_neg (by omega), if_pos rfl] at h1
    split at h1
    ·rename_i n hn; exact numV_feed hn
    ·cases h1
  ·exact ih y hy
theorem form_of {w : List UInt8} {k : Nat} {f : List Nat} (h : cmdOf w = some (k, f)) : (∀ x ∈ f, x = 0 ∨ x = 1) ∨ (k = 10 ∧ f = [0, 2]) := by
 have := cmd_mem h
 have all : ∀ x ∈ cmds, (∀ y ∈ x.2.2, y = 0 ∨ y = 1) ∨ (x.2.1 = 10 ∧ x.2.2 = [0, 2]) := by decide
 exact all _ this
theorem do_feed {t : List UInt8} {r : Rm} (h : (doR t r).1 = 0) : (10 : UInt8) ∉ t := by
 obtain ⟨o, h1, h2, h3, _⟩ := doR_zero h
 intro hm
 obtain ⟨w, hw, hx⟩ := mem_pcs (b := 32) hm (by decide)
 unfold parseO at h1
 split at h1
 ·cases h1
 ·split at h1
  ·rename_i hp; exact pcs_ne _ _ hp
  ·rename_i hd ws hp
   rw [hp] at hw
   unfold wordsO at h1
   split at h1
   ·rename_i k f hc
    split at h1
    ·rename_i hlen
     rcases List.mem_cons.1 hw with rfl | hw
     ·exact cmd_feed hc hx
     ·rcases form_of hc with hf | ⟨rfl, rfl⟩
      ·exact read_feed f ws _ o hf hlen h1 w hw hx
      ·match ws, hlen with
       | [w1, w2], _ =>
        obtain ⟨x1, p1, h1⟩ := readO_some h1
        obtain ⟨x2, p2, h1⟩ := readO_some h1
        injection h1 with h1
        obtain ⟨q1, rfl⟩ := put0 p1
        obtain ⟨q2, rfl⟩ := put2 p2
        subst h1
        simp only [List.mem_cons, List.not_mem_nil, or_false] at hw
        rcases hw with rfl | rfl
        ·exact letW_feed q1 hx
        ·refine style_feed ?_ hx
         have h4 : (workR r ⟨10, [w1], w, []⟩ w1).1 = 0 := h3
         unfold workR at h4
         split at h4
         ·rename_i h5; exact absurd h4 h5
         ·split at h4
          ·rename_i h5; exact absurd h4 h5
          ·rename_i h5
           have h6 : (plaitW (inW r w1 1).2.2 w).1 = 0 := by
            have : (dressW ⟨10, [w1], w, []⟩ (inW r w1 1).2.2).1.1 = 0 := by omega
            exact this
           unfold plaitW at h6
           split at h6
           ·rename_i h7; exact absurd h6 h7
           ·rename_i h7; omega
    ·cases h1
   ·cases h1
def dayT (l : List (List UInt8)) : List UInt8 := l.flatMap fun t => t ++ [10]
theorem dayT_snoc (l : List (List UInt8)) (t : List UInt8) : dayT (l ++ [t]) = dayT l ++ (t ++ [10]) := by simp [dayT]
theorem good_feed {r : Rm} (g : r.Good) : ∀ t ∈ r.day, (10 : UInt8) ∉ t := by
 intro t ht
 obtain ⟨i, hi, rfl⟩ := List.getElem_of_mem ht
 exact do_feed (g.done i hi)
def repR : List (List UInt8) → Rm → Nat → Option Rm × Nat × Int
 | [], r, n => (some r, n, 0)
 | t :: l, r, n => if (doR t r).1 ≠ 0 then (none, n, (doR t r).1) else repR l (doR t r).2 (n + 1)
theorem repR_all : ∀ (l : List (List UInt8)) (r : Rm) (n : Nat), (∀ i, (h : i < l.length) → (doR l[i] (runR (l.take i) r)).1 = 0) → repR l r n = (some (runR l r), n + l.length, 0)
 | [], _, _, _ => rfl
 | t :: l, r, n, h => by
  have h0 := h 0 (by simp)
  simp only [List.getElem_cons_zero, List.take_zero, runR, List.foldl_nil] at h0
  simp only [repR, h0, ne_eq, not_true_eq_false, if_false]
  rw [repR_all l (doR t r).2 (n + 1) fun i hi => by
   have := h (i + 1) (by simpa using hi)
   simpa [runR] using this]
  simp only [runR, List.foldl_cons, List.length_cons]
  congr 2
  omega
theorem good_again {r : Rm} (g : r.Good) : repR r.day rm0 0 = (some r, r.day.length, 0) := by
 rw [repR_all _ _ _ g.done, g.again, Nat.zero_add]
end Go.Proofs.YtihhclhpjgeniaaGreatDoor
namespace Go.Proofs.YtihhclhpjgeniaaGreatDoor
open Go.RowKit Go.Sort
theorem keyS (n : List UInt8) (h : n.length ≤ maxLen) : keyOf Tryz.prog 9 (.string (mkB n)) = some (.string n) := by
 have := Go.WideMaps.keyOf_string_mk (P := Tryz.prog) Tryz.underlying9 (s := mkB n) h
 exact this
def UsedIn (w : World) (b : Nat) (l : List (List UInt8)) : Prop :=
 ∃ D : DataW Unit, w.ownsMap Tryz.prog 9 (plainElem Tryz.prog 4) b l.length D ∧ ∀ n, D.atKey (.string n) (.lit (.bool false)) = .lit (.bool (l.contains n))
theorem UsedIn.lt {w : World} {b : Nat} {l : List (List UInt8)} (h : UsedIn w b l) : b < w.heap.size := by
 obtain ⟨D, h, _⟩ := h; exact h.lt
theorem UsedIn.kp {S : Nat → Prop} {w w' : World} {b : Nat} {l : List (List UInt8)} (h : UsedIn w b l) (k : Kp S w w') (hb : ¬ S b) : UsedIn w' b l := by
 obtain ⟨D, ⟨es, clock, h1, h2⟩, h3⟩ := h
 exact ⟨D, ⟨es, clock, (k.block b (Array.getElem?_eq_some_iff.1 h1).1 hb).trans h1, h2⟩, h3⟩
theorem UsedIn.ne {w : World} {b : Nat} {l : List (List UInt8)} (h : UsedIn w b l) {q : Nat} {cs : Array Value} {t : TypeId} {fr : Nat × Nat} (hq : w.heap[q]? = some (.cells cs t fr)) : b ≠ q := by
 obtain ⟨D, ⟨es, clock, h1, _⟩, _⟩ := h
 intro e; subst e
 rw [h1] at hq; cases hq
theorem UsedIn.new (w : World) : UsedIn (w.alloc (.map #[] 0)) w.heap.size [] :=
 ⟨.map [], World.ownsMap_made w _ _ _, fun n => by simp [DataW.atKey]⟩
structure NB where
 name : List UInt8
 v : BV
structure NW where
 w : Wg
 A : Option Addr
 n : Nat
 c : Nat
def NB.cells (b : NB) : List Value := [.string (mkB b.name), .slice b.v.A b.v.n b.v.c, .slice b.v.B b.v.m b.v.d]
def wgL (w : Wg) : List Value := [.string (mkB w.name), .string (mkB w.bun), .int .i64 w.hairs, .int .i64 w.done, .int .i64 w.shed, .int .i64 w.len, .int .i64 w.lvl, .int .i64 w.tone, .int .i64 w.bl, .string (mkB w.plait), .int .i64 w.state, .int .i64 w.price]
def NW.cells (x : NW) : List Value := wgL x.w ++ [.slice x.A x.n x.c]
theorem nb_len (b : NB) : b.cells.length = 3 := rfl
theorem nw_len (b : NW) : b.cells.length = 13 := rfl
def strL (l : List (List UInt8)) : List Value := l.map fun t => .string (mkB t)
theorem strL_len (l : List (List UInt8)) : (strL l).length = l.length := by simp [strL]
structure RV where
 A : Option Addr
 ca : Nat
 B : Option Addr
 cb : Nat
 E : Option Addr
 ce : Nat
 M : Nat
 bs : List NB
 ws : List NW
 used : List (List UInt8)
 bought : Int
 lost : Int
 cash : Int
 day : List (List UInt8)
def RV.rm (v : RV) : Rm := ⟨v.bs.map fun b => (b.name, b.v.h), v.ws.map (·.w), v.used, v.bought, v.lost, v.cash, v.day⟩
def RV.cells (v : RV) (s : Int) : Array Value :=
 #[.int .i32 s, .int .u32 0, .slice v.A v.bs.length v.ca, .slice v.B v.ws.length v.cb, .map (some v.M), .int .i64 v.bought, .int .i64 v.lost, .int .i64 v.cash, .slice v.E v.day.length v.ce]
def RV.F (v : RV) (p : Nat) : Nat → Prop := fun k => k = p ∨ k = v.M ∨ (∃ a, v.A = some a ∧ a.block = k) ∨ (∃ a, v.B = some a ∧ a.block = k) ∨ ∃ a, v.E = some a ∧ a.block = k
def RV.C (v : RV) : Nat → Prop := fun k => (∃ b ∈ v.bs, blk b.v.A b.v.n k ∨ blk b.v.B b.v.m k) ∨ ∃ x ∈ v.ws, blk x.A x.n k
structure RV.In (v : RV) (s : Int) (p : Nat) (w : World) : Prop where
 room : At w p (v.cells s) 109
 rb : w.ownsRow 0 130 3 (.slice v.A v.bs.length v.ca) v.bs.length (v.bs.flatMap NB.cells)
 rw : w.ownsRow 0 126 13 (.slice v.B v.ws.length v.cb) v.ws.length (v.ws.flatMap NW.cells)
 rd : w.ownsRow 0 9 1 (.slice v.E v.day.length v.ce) v.day.length (strL v.day)
 mp : UsedIn w v.M v.used
 hb : ∀ b ∈ v.bs, b.v.In w
 hw : ∀ x ∈ v.ws, Reads w w.heap.size 6 x.A x.n (ents x.w.card) ∧ x.n ≤ x.c
 sep : ∀ k, v.C k → ¬ v.F p k
 g : ∀ k, v.F p k ∨ v.C k → 8 ≤ k
theorem row_addr {w : World} {e sz n : Nat} {A : Option Addr} {c : Nat} {xs : List Value} (h : w.ownsRow 0 e sz (.slice A n c) n xs) {a : Addr} (hA : A = some a) : a.block < w.heap.size ∧ ∃ cs fr, w.heap[a.block]? = some (.cells cs e fr) := by
 subst hA
 rcases h.2 with ⟨h', _⟩ | ⟨g', cap', cur, h', _, hg, _⟩
 ·simp at h'
 ·simp only [Value.slice.injEq, Option.some.injEq] at h'
  obtain ⟨rfl, _⟩ := h'
  exact ⟨(Array.getElem?_eq_some_iff.1 hg).1, _, _, hg⟩
theorem RV.In.lt {v : RV} {s : Int} {p : Nat} {w : World} (h : v.In s p w) {k : Nat} (hk : v.F p k ∨ v.C k) : k < w.heap.size := by
 rcases hk with hk | hk
 ·rcases hk with rfl | rfl | ⟨a, ha, rfl⟩ | ⟨a, ha, rfl⟩ | ⟨a, ha, rfl⟩
  ·exact h.room.lt
  ·exact h.mp.lt
  ·exact (row_addr h.rb ha).1
  ·exact (row_addr h.rw ha).1
  ·exact (row_addr h.rd ha).1
 ·rcases hk with ⟨b, hb, hk | hk⟩ | ⟨x, hx, hk⟩
  ·exact (h.hb b hb).r.blk_lt hk
  ·exact (h.hb b hb).s.blk_lt hk
  ·exact (h.hw x hx).1.blk_lt hk
theorem RV.In.kp {S : Nat → Prop} {v : RV} {s : Int} {p : Nat} {w w' : World} (h : v.In s p w) (k : Kp S w w') (hS : ∀ b, v.F p b ∨ v.C b → ¬ S b) : v.In s p w' where
 room := h.room.kp k (hS p (.inl (.inl rfl)))
 rb := own_kp h.rb k fun b hb => hS b (.inl (.inr (.inr (.inl (by cases hA : v.A with | none => rw [hA] at hb; simp [Value.ownBlock] at hb | some a => rw [hA] at hb; exact ⟨a, rfl, by simpa [Value.ownBlock] using hb⟩)))))
 rw := own_kp h.rw k fun b hb => hS b (.inl (.inr (.inr (.inr (.inl (by cases hA : v.B with | none => rw [hA] at hb; simp [Value.ownBlock] at hb | some a => rw [hA] at hb; exact ⟨a, rfl, by simpa [Value.ownBlock] using hb⟩))))))
 rd := own_kp h.rd k fun b hb => hS b (.inl (.inr (.inr (.inr (.inr (by cases hA : v.E with | none => rw [hA] at hb; simp [Value.ownBlock] at hb | some a => rw [hA] at hb; exact ⟨a, rfl, by simpa [Value.ownBlock] using hb⟩))))))
 mp := h.mp.kp k (hS v.M (.inl (.inr (.inl rfl))))
 hb := fun b hb => (h.hb b hb).kb k (fun j hj => hS j (.inr (.inl ⟨b, hb, .inl hj⟩))) (fun j hj => hS j (.inr (.inl ⟨b, hb, .inr hj⟩)))
 hw := fun x hx => ⟨(h.hw x hx).1.kb k (fun j hj => hS j (.inr (.inr ⟨x, hx, hj⟩))), (h.hw x hx).2⟩
 sep := h.sep
 g := h.g
theorem RV.In.below {v : RV} {s : Int} {p : Nat} {w w' : World} (h : v.In s p w) (hb : Below w.heap.size w w') : v.In s p w' := h.kp (Kp.of (S := fun _ => False) hb) fun _ _ e => e
structure Rs (p : Nat) (v : RV) (w : World) (v' : RV) (w' : World) : Prop where
 kp : Kp (v.F p) w w'
 f : ∀ k, v'.F p k → v.F p k ∨ w.heap.size ≤ k
 c : ∀ k, v'.C k → v.C k ∨ w.heap.size ≤ k
theorem Rs.below {p : Nat} {v : RV} {w w' : World} (h : Below w.heap.size w w') : Rs p v w v w' := ⟨Kp.of h, fun _ h => .inl h, fun _ h => .inl h⟩
theorem Rs.trans {p : Nat} {v v1 v2 : RV} {w w1 w2 : World} (h : Rs p v w v1 w1) (k : Rs p v1 w1 v2 w2) : Rs p v w v2 w2 := by
 have hz := h.kp.size
 refine ⟨h.kp.trans k.kp fun x hx hs => ?_, fun x hx => ?_, fun x hx => ?_⟩
 ·rcases h.f x hs with h1 | h1
  ·exact h1
  ·omega
 ·rcases k.f x hx with h1 | h1
  ·exact h.f x h1
  ·exact .inr (by omega)
 ·rcases k.c x hx with h1 | h1
  ·exact h.c x h1
  ·exact .inr (by omega)
theorem Rs.grow {p : Nat} {v v1 : RV} {w w1 w2 : World} (h : Rs p v w v1 w1) (hb : Below w1.heap.size w1 w2) : Rs p v w v1 w2 := h.trans (Rs.below hb)
section
variable {v : RV} {s : Int} {p : Nat} {w : World}
theorem RV.In.ne_b (h : v.In s p w) {g : Nat} (hg : v.A = some ⟨g, 0, none⟩) : g ≠ p ∧ g ≠ v.M ∧ (∀ a, v.B = some a → a.block ≠ g) ∧ (∀ a, v.E = some a → a.block ≠ g) := by
 obtain ⟨_, cs, fr, hb⟩ := row_addr h.rb hg
 dsimp only at hb
 refine ⟨fun e => ?_, fun e => (h.mp.ne hb) e.symm, fun a ha e => ?_, fun a ha e => ?_⟩
 ·subst e
  rw [show w.heap[g]? = _ from h.room] at hb
  simp at hb
 ·obtain ⟨_, cs', fr', hb'⟩ := row_addr h.rw ha
  rw [e, hb] at hb'; simp at hb'
 ·obtain ⟨_, cs', fr', hb'⟩ := row_addr h.rd ha
  rw [e, hb] at hb'; simp at hb'
theorem RV.In.ne_w (h : v.In s p w) {g : Nat} (hg : v.B = some ⟨g, 0, none⟩) : g ≠ p ∧ g ≠ v.M ∧ (∀ a, v.A = some a → a.block ≠ g) ∧ (∀ a, v.E = some a → a.block ≠ g) := by
 obtain ⟨_, cs, fr, hb⟩ := row_addr h.rw hg
 dsimp only at hb
 refine ⟨fun e => ?_, fun e => (h.mp.ne hb) e.symm, fun a ha e => ?_, fun a ha e => ?_⟩
 ·subst e
  rw [show w.heap[g]? = _ from h.room] at hb
  simp at hb
 ·obtain ⟨_, cs', fr', hb'⟩ := row_addr h.rb ha
  rw [e, hb] at hb'; simp at hb'
 ·obtain ⟨_, cs', fr', hb'⟩ := row_addr h.rd ha
  rw [e, hb] at hb'; simp at hb'
theorem RV.In.ne_p (h : v.In s p w) : p ≠ v.M ∧ (∀ a, v.A = some a → a.block ≠ p) ∧ (∀ a, v.B = some a → a.block ≠ p) ∧ (∀ a, v.E = some a → a.block ≠ p) := by
 have hp : w.heap[p]? = some (.cells (v.cells s) 109 (0, 0)) := h.room
 refine ⟨fun e => (h.mp.ne hp) e.symm, fun a ha e => ?_, fun a ha e => ?_, fun a ha e => ?_⟩
 ·obtain ⟨_, cs', fr', hb'⟩ := row_addr h.rb ha
  rw [e, hp] at hb'; simp at hb'
 ·obtain ⟨_, cs', fr', hb'⟩ := row_addr h.rw ha
  rw [e, hp] at hb'; simp at hb'
 ·obtain ⟨_, cs', fr', hb'⟩ := row_addr h.rd ha
  rw [e, hp] at hb'; simp at hb'
theorem ownb {A : Option Addr} {n c k : Nat} (h : (Value.slice A n c).ownBlock = some k) : ∃ a, A = some a ∧ a.block = k := by
 cases A with
 | none => simp [Value.ownBlock] at h
 | some a => exact ⟨a, rfl, by simpa [Value.ownBlock] using h⟩
theorem RV.In.setN (h : v.In s p w) {v' : RV} {s' : Int} (i : Nat) (u : Value) (e : v'.cells s' = (v.cells s).setIfInBounds i u) (e1 : v'.A = v.A ∧ v'.B = v.B ∧ v'.E = v.E ∧ v'.M = v.M) (e2 : v'.bs = v.bs ∧ v'.ws = v.ws ∧ v'.used = v.used ∧ v'.day = v.day)
  (e3 : v'.ca = v.ca ∧ v'.cb = v.cb ∧ v'.ce = v.ce) : v'.In s' p (w.setCell ⟨p, i, none⟩ u) ∧ Rs p v w v' (w.setCell ⟨p, i, none⟩ u) := by
 obtain ⟨a1, a2, a3, a4⟩ := e1
 obtain ⟨b1, b2, b3, b4⟩ := e2
 obtain ⟨c1, c2, c3⟩ := e3
 have hF : v'.F p = v.F p := by unfold RV.F; rw [a1, a2, a3, a4]
 have hC : v'.C = v.C := by unfold RV.C; rw [b1, b2]
 obtain ⟨n1, n2, n3, n4⟩ := h.ne_p
 have k : Kp (fun j => j = p) w (w.setCell ⟨p, i, none⟩ u) := (Kp.refl (fun j => j = p) w).set (p := ⟨p, i, none⟩) (fun _ => rfl) u
 have hc : ∀ j, v.C j → ¬ j = p := fun j hj e => h.sep j hj (.inl e)
 refine ⟨⟨?_, ?_, ?_, ?_, ?_, ?_, ?_, ?_, ?_⟩, ⟨k.mono fun x e => .inl e, fun j hj => .inl (hF ▸ hj), fun j hj => .inl (hC ▸ hj)⟩⟩
 ·rw [e]; exact h.room.set i u
 ·rw [a1, b1, c1]; exact own_kp h.rb k fun b hb e => by obtain ⟨a, ha, hk⟩ := ownb hb; exact n2 a ha (hk.trans e)
 ·rw [a2, b2, c2]; exact own_kp h.rw k fun b hb e => by obtain ⟨a, ha, hk⟩ := ownb hb; exact n3 a ha (hk.trans e)
 ·rw [a3, b4, c3]; exact own_kp h.rd k fun b hb e => by obtain ⟨a, ha, hk⟩ := ownb hb; exact n4 a ha (hk.trans e)
 ·rw [a4, b3]; exact h.mp.kp k fun e => n1 e.symm
 ·rw [b1]; exact fun b hb => (h.hb b hb).kb k (fun j hj => hc j (.inl ⟨b, hb, .inl hj⟩)) (fun j hj => hc j (.inl ⟨b, hb, .inr hj⟩))
 ·rw [b2]; exact fun x hx => ⟨(h.hw x hx).1.kb k (fun j hj => hc j (.inr ⟨x, hx, hj⟩)), (h.hw x hx).2⟩
 ·rw [hC, hF]; exact h.sep
 ·rw [hC, hF]; exact h.g
end
end Go.Proofs.YtihhclhpjgeniaaGreatDoor
