/- Merged texts: Rd -/
import Derived.Test.YtihhclhpjgeniaaGreatDoorSA16
namespace Go.Proofs.YtihhclhpjgeniaaGreatDoor
structure Stp (r r' : Rm) : Prop where
  ok : r'.Ok
  day : r'.day = r.day
  few : ∀ n, r.Few n → r'.Few (n + 1)
theorem few_of {r r' : Rm} {x y : Int} (hx : x ≤ 1000000) (hy : -1000000 ≤ y ∧ y ≤ 1000000) (e1 : r'.bought = r.bought + x) (e2 : r'.cash = r.cash + y) : ∀ n, r.Few n → r'.Few (n + 1) := fun n h =>
  ⟨by have := h.bought; push_cast; omega, by have := h.cash; push_cast; omega⟩
theorem buy_stp {r : Rm} (k : r.Ok) {n : List UInt8} {a b c : Int} (ha : inN a) (hb : inN b) (hc : inN c) (h : (buyR r n a b c).1 = 0) : Stp r (buyR r n a b c).2 := by
  unfold buyR at h ⊢
  split at h
  · cases h
  rename_i h1
  split at h
  · cases h
  rename_i h2
  split at h
  · cases h
  rename_i h3
  rw [if_neg h1, if_neg h2, if_neg h3]
  unfold inN at ha hb hc
  refine ⟨put_ok k (by simpa using h1) (by omega) (ofH_ok hb (by omega)) rfl rfl rfl rfl (by rw [ofH_cnt (by omega)]), rfl, few_of (x := b) (y := -c) (by omega) (by omega) rfl rfl⟩
theorem mix_stp {r : Rm} (k : r.Ok) {n m : List UInt8} (h : (mixR r n m).1 = 0) : Stp r (mixR r n m).2 := by
  unfold mixR at h ⊢
  cases h1 : r.bun n with
  | none => simp [h1] at h
  | some i =>
    cases h2 : r.bun m with
    | none => simp [h1, h2] at h
    | some j =>
      simp only [h1, h2] at h ⊢
      split at h
      · cases h
      rename_i h3
      split at h
      · rename_i h4; exact absurd h h4
      rename_i h4
      rw [if_neg h3, if_neg h4]
      obtain ⟨hi, _⟩ := bun_some h1
      obtain ⟨hj, _⟩ := bun_some h2
      have h4' : (mixH (r.hr i) (r.hr j)).1 = 0 := by omega
      obtain ⟨m1, m2⟩ := mix_ok (hr_ok k i) (hr_ok k j) h4'
      have hj2 : j < (r.setH i (mixH (r.hr i) (r.hr j)).2).bs.length := by simp [Rm.setH]; exact hj
      have hs := setH_hairs hi (mixH (r.hr i) (r.hr j)).2
      have hjo : (r.setH i (mixH (r.hr i) (r.hr j)).2).bs[j].2 = r.hr j := by
        have e := hr_at hj
        generalize (mixH (r.hr i) (r.hr j)).2 = c at hj2 ⊢
        rw [e]
        simp only [Rm.setH, List.getElem_modify, if_neg h3]
      refine ⟨⟨?_, ?_, k.nw, k.hw, ?_, k.uw, ?_, k.dw, k.lost, ?_⟩, rfl, few_of (x := 0) (y := 0) (by omega) (by omega) (by simp [Rm.setH]) (by simp [Rm.setH])⟩
      · have := List.length_eraseIdx_le (r.setH i (mixH (r.hr i) (r.hr j)).2).bs j
        have e : (r.setH i (mixH (r.hr i) (r.hr j)).2).bs.length = r.bs.length := by simp [Rm.setH]
        have := k.nb
        show ((r.setH i (mixH (r.hr i) (r.hr j)).2).bs.eraseIdx j).length ≤ 12
        omega
      · intro b hb
        have := setH_mem k m1 (List.mem_of_mem_eraseIdx hb)
        exact ⟨this.1, this.2.1⟩
      · intro b hb
        exact (setH_mem k m1 (List.mem_of_mem_eraseIdx hb)).2.2
      · have hd := k.db
        rw [← setH_names r i (mixH (r.hr i) (r.hr j)).2] at hd
        exact hd.sublist ((List.eraseIdx_sublist _ _).map _)
      · have := k.bal
        show r.bought = r.lost + hairsB ((r.setH i (mixH (r.hr i) (r.hr j)).2).bs.eraseIdx j) + hairsW r.ws
        have e : hairsB ((r.setH i (mixH (r.hr i) (r.hr j)).2).bs.eraseIdx j) = hairsB (r.setH i (mixH (r.hr i) (r.hr j)).2).bs - (r.hr j).cnt := by
          unfold hairsB
          rw [sum_erase _ _ _ hj2, hjo]
        omega
theorem setH_bs_len (r : Rm) (i : Nat) (h : Hr) : (r.setH i h).bs.length = r.bs.length := by simp [Rm.setH]
theorem draw_stp {r : Rm} (k : r.Ok) {n m : List UInt8} {a : Int} (h : (drawR r n m a).1 = 0) : Stp r (drawR r n m a).2 := by
  unfold drawR at h ⊢
  cases h1 : r.bun n with
  | none => simp [h1] at h
  | some i =>
    simp only [h1] at h ⊢
    split at h
    · cases h
    rename_i h2
    split at h
    · cases h
    rename_i h3
    split at h
    · rename_i h4; exact absurd h h4
    rename_i h4
    rw [if_neg h2, if_neg h3, if_neg h4]
    obtain ⟨hi, _⟩ := bun_some h1
    obtain ⟨d1, d2, d3⟩ := draw_ok (hr_ok k i) a (by omega)
    have h2' : r.fresh m = true := by simpa using h2
    refine ⟨⟨?_, ?_, k.nw, k.hw, ?_, ?_, ?_, k.dw, k.lost, ?_⟩, rfl, few_of (x := 0) (y := 0) (by omega) (by omega) (by simp [Rm.setH, Rm.put]) (by simp [Rm.setH, Rm.put])⟩
    · show ((r.setH i _).bs ++ [_]).length ≤ 12
      rw [List.length_append, setH_bs_len]; simp; omega
    · intro b hb
      rcases List.mem_append.1 hb with hb | hb
      · have := setH_mem k d2 hb; exact ⟨this.1, this.2.1⟩
      · rw [List.mem_singleton.1 hb]; exact ⟨(fresh_iff.1 h2').1, d1⟩
    · intro b hb
      rcases List.mem_append.1 hb with hb | hb
      · exact List.mem_append_left _ (setH_mem k d2 hb).2.2
      · rw [List.mem_singleton.1 hb]; exact List.mem_append_right _ (by simp)
    · intro w hw; exact List.mem_append_left _ (k.uw w hw)
    · show (((r.setH i (drawH (r.hr i) a).2.2).bs ++ [(m, (drawH (r.hr i) a).2.1)]).map (·.1)).Nodup
      rw [List.map_append, setH_names, List.nodup_append]
      refine ⟨k.db, by simp, ?_⟩
      intro x hx y hy
      simp only [List.map_cons, List.map_nil, List.mem_singleton] at hy
      subst hy
      obtain ⟨z, hz, rfl⟩ := List.mem_map.1 hx
      exact fun e => (fresh_iff.1 h2').2 (by rw [← e]; exact k.ub z hz)
    · have := k.bal
      have hs := setH_hairs hi (drawH (r.hr i) a).2.2
      have e : hairsB ((r.setH i (drawH (r.hr i) a).2.2).bs ++ [(m, (drawH (r.hr i) a).2.1)]) = hairsB (r.setH i (drawH (r.hr i) a).2.2).bs + (drawH (r.hr i) a).2.1.cnt := by simp [hairsB]
      show r.bought = r.lost + hairsB ((r.setH i (drawH (r.hr i) a).2.2).bs ++ [(m, (drawH (r.hr i) a).2.1)]) + hairsW r.ws
      omega
theorem hack_stp {r : Rm} (k : r.Ok) {n : List UInt8} {a : Int} (h : (hackR r n a).1 = 0) : Stp r (hackR r n a).2 := by
  unfold hackR at h ⊢
  cases h1 : r.bun n with
  | none => simp [h1] at h
  | some i =>
    simp only [h1] at h ⊢
    split at h
    · rename_i h4; exact absurd h h4
    rename_i h4
    rw [if_neg h4]
    obtain ⟨hi, _⟩ := bun_some h1
    obtain ⟨d1, d2, d3⟩ := hack_ok (hr_ok k i) a (by omega)
    have := d2.cnt
    have := k.lost
    have q : (hackH (r.hr i) a).2.2.cnt = cntH (hackH (r.hr i) a).2.2.op := rfl
    refine ⟨setH_ok k hi d1 rfl rfl rfl ?_ ?_, rfl, few_of (x := 0) (y := 0) (by omega) (by omega) (by simp [Rm.setH]) (by simp [Rm.setH])⟩
    · show 0 ≤ r.lost + cntH (hackH (r.hr i) a).2.2.op; omega
    · show r.bought - (r.lost + cntH (hackH (r.hr i) a).2.2.op) = r.bought - r.lost + (hackH (r.hr i) a).2.1.cnt - (r.hr i).cnt; omega
theorem turn_stp {r : Rm} (k : r.Ok) {n : List UInt8} (h : (turnR r n).1 = 0) : Stp r (turnR r n).2 := by
  unfold turnR at h ⊢
  cases h1 : r.bun n with
  | none => simp [h1] at h
  | some i =>
    simp only [h1] at h ⊢
    split at h
    · rename_i h4; exact absurd h h4
    rename_i h4
    rw [if_neg h4]
    obtain ⟨hi, _⟩ := bun_some h1
    obtain ⟨d1, d2⟩ := turn_ok (hr_ok k i) (by omega)
    refine ⟨setH_ok k hi d1 rfl rfl rfl k.lost ?_, rfl, few_of (x := 0) (y := 0) (by omega) (by omega) (by simp [Rm.setH]) (by simp [Rm.setH])⟩
    show r.bought - r.lost = r.bought - r.lost + _ - _; omega
theorem snap_stp {r : Rm} (k : r.Ok) {n : List UInt8} {a b c : Int} (hc : inN c) (h : (snapR r n a b c).1 = 0) : Stp r (snapR r n a b c).2 := by
  unfold snapR at h ⊢
  cases h1 : r.bun n with
  | none => simp [h1] at h
  | some i =>
    simp only [h1] at h ⊢
    split at h
    · rename_i h4; exact absurd h h4
    rename_i h4
    rw [if_neg h4]
    obtain ⟨hi, _⟩ := bun_some h1
    obtain ⟨d1, d2, d3⟩ := snap_ok (hr_ok k i) a b c (by omega)
    unfold inN at hc
    refine ⟨setH_ok k hi d1 rfl rfl rfl k.lost ?_, rfl, few_of (x := c) (y := 0) (by omega) (by omega) rfl (by simp [Rm.setH])⟩
    show r.bought + c - r.lost = r.bought - r.lost + _ - _; omega
theorem newW_ok {n b : List UInt8} {c l : Int} (hn : okName n = true) (hb : okName b = true) (hc : 1 ≤ c ∧ c ≤ 1000000) (hl : 1 ≤ l ∧ l ≤ 24) : (newW n b c l).Ok :=
  ⟨hn, hb, hc, ⟨by simp [newW], by simp only [newW]; omega⟩, ⟨by simp [newW], by simp only [newW]; omega⟩, hl, by simp [newW], by simp [newW], by simp [newW], by show okW (mkB []) = true; decide, by simp [newW], by simp [newW], val_zero.1 (by simp only [newW]; decide)⟩
theorem begin_stp {r : Rm} (k : r.Ok) {n m : List UInt8} {a b : Int} (ha : inN a) (h : (beginR r n m a b).1 = 0) : Stp r (beginR r n m a b).2 := by
  unfold beginR at h ⊢
  split at h
  · cases h
  rename_i h0
  cases h1 : r.bun m with
  | none => simp [h1] at h
  | some i =>
    simp only [h1] at h ⊢
    split at h
    · cases h
    rename_i h2
    split at h
    · cases h
    rename_i h3
    split at h
    · rename_i h4; exact absurd h h4
    rename_i h4
    rw [if_neg h0, if_neg h2, if_neg h3, if_neg h4]
    obtain ⟨hi, hin⟩ := bun_some h1
    unfold inN at ha
    obtain ⟨d1, d2⟩ := cut_ok (hr_ok k i) (ofH_ok (count := a) (len := b) (by unfold inN; omega) (by omega)) (by omega)
    rw [ofH_cnt (by omega)] at d2
    have h0' := fresh_iff.1 (show r.fresh n = true by simpa using h0)
    have hm : okName m = true := by rw [← hin]; exact (k.hb _ (List.getElem_mem hi)).1
    have hs := setH_hairs hi (cutH (r.hr i) (ofH a b)).2
    refine ⟨⟨?_, ?_, ?_, ?_, ?_, ?_, ?_, ?_, k.lost, ?_⟩, rfl, few_of (x := 0) (y := 0) (by omega) (by omega) (by simp [Rm.setH]) (by simp [Rm.setH])⟩
    · show (r.setH i _).bs.length ≤ 12
      rw [setH_bs_len]; exact k.nb
    · intro x hx; have := setH_mem k d1 hx; exact ⟨this.1, this.2.1⟩
    · show (r.ws ++ [_]).length ≤ 12
      simp; omega
    · intro x hx
      rcases List.mem_append.1 hx with hx | hx
      · exact k.hw x hx
      · rw [List.mem_singleton.1 hx]; exact newW_ok h0'.1 hm (by omega) (by omega)
    · intro x hx; exact List.mem_append_left _ (setH_mem k d1 hx).2.2
    · intro x hx
      rcases List.mem_append.1 hx with hx | hx
      · exact List.mem_append_left _ (k.uw x hx)
      · rw [List.mem_singleton.1 hx]; exact List.mem_append_right _ (by simp [newW])
    · show ((r.setH i _).bs.map (·.1)).Nodup
      rw [setH_names]; exact k.db
    · show ((r.ws ++ [newW n m a b]).map (·.name)).Nodup
      rw [List.map_append, List.nodup_append]
      refine ⟨k.dw, by simp, ?_⟩
      intro x hx y hy
      simp only [List.map_cons, List.map_nil, List.mem_singleton] at hy
      subst hy
      obtain ⟨z, hz, rfl⟩ := List.mem_map.1 hx
      exact fun e => h0'.2 (by have := k.uw z hz; rw [e] at this; exact this)
    · have := k.bal
      have e : hairsW (r.ws ++ [newW n m a b]) = hairsW r.ws + a := by simp [hairsW, newW]
      show r.bought = r.lost + hairsB (r.setH i (cutH (r.hr i) (ofH a b)).2).bs + hairsW (r.ws ++ [newW n m a b])
      omega
theorem inW_zero {r : Rm} {n : List UInt8} {s : Int} (h : (inW r n s).1 = 0) : r.ws[(inW r n s).2.1]? = some (inW r n s).2.2 ∧ (inW r n s).2.2.state = s := by
  unfold inW at h ⊢
  split at h
  · cases h
  · rename_i i h1
    split at h
    · cases h
    · rename_i w h2
      split at h
      · rename_i h3
        simp only [h2, h3, if_true]
        exact ⟨trivial, trivial⟩
      · cases h
theorem wOk {r : Rm} (k : r.Ok) {i : Nat} {w : Wg} (h : r.ws[i]? = some w) : w.Ok := k.hw w (List.mem_of_getElem? h)
theorem knot_stp {r : Rm} (k : r.Ok) {n : List UInt8} {a : Int} (ha : inN a) (h : (knotR r n a).1 = 0) : Stp r (knotR r n a).2 := by
  unfold knotR at h ⊢
  split at h
  · rename_i h1; exact absurd h h1
  rename_i h1
  split at h
  · cases h
  rename_i h2
  rw [if_neg h1, if_neg h2]
  obtain ⟨p1, p2⟩ := inW_zero (show (inW r n 0).1 = 0 by omega)
  have kw := wOk k p1
  generalize (inW r n 0).2.2 = w at *
  generalize (inW r n 0).2.1 = i at *
  unfold inN at ha
  have hd := kw.done
  refine ⟨setW_ok k p1 (w' := { w with done := w.done + a, state := if w.done + a = w.hairs then 1 else 0 }) ⟨kw.nm, kw.bn, kw.hairs, ⟨?_, ?_⟩, kw.shed, kw.len, kw.lvl, kw.tone, kw.bl, kw.plait, ?_, kw.price, kw.card⟩ rfl rfl rfl rfl k.lost ?_, rfl, few_of (x := 0) (y := 0) (by omega) (by omega) (by simp [Rm.setW]) (by simp [Rm.setW])⟩
  · show 0 ≤ w.done + a; omega
  · show w.done + a ≤ w.hairs; omega
  · show 0 ≤ (if w.done + a = w.hairs then (1 : Int) else 0) ∧ (if w.done + a = w.hairs then (1 : Int) else 0) ≤ 3
    split <;> omega
  · show r.bought - r.lost = r.bought - r.lost + (w.hairs - w.shed) - (w.hairs - w.shed); omega
theorem lend_stp {r : Rm} (k : r.Ok) {n : List UInt8} (h : (lendR r n).1 = 0) : Stp r (lendR r n).2 := by
  unfold lendR at h ⊢
  split at h
  · rename_i h1; exact absurd h h1
  rename_i h1
  rw [if_neg h1]
  obtain ⟨p1, p2⟩ := inW_zero (show (inW r n 1).1 = 0 by omega)
  have kw := wOk k p1
  generalize (inW r n 1).2.2 = w at *
  generalize (inW r n 1).2.1 = i at *
  refine ⟨setW_ok k p1 (w' := { w with state := 2 }) ⟨kw.nm, kw.bn, kw.hairs, kw.done, kw.shed, kw.len, kw.lvl, kw.tone, kw.bl, kw.plait, by show (0 : Int) ≤ 2 ∧ (2 : Int) ≤ 3; omega, kw.price, kw.card⟩ rfl rfl rfl rfl k.lost ?_, rfl, few_of (x := 0) (y := 0) (by omega) (by omega) (by simp [Rm.setW]) (by simp [Rm.setW])⟩
  show r.bought - r.lost = r.bought - r.lost + (w.hairs - w.shed) - (w.hairs - w.shed); omega
theorem sell_stp {r : Rm} (k : r.Ok) {n : List UInt8} {a : Int} (ha : inN a) (h : (sellR r n a).1 = 0) : Stp r (sellR r n a).2 := by
  unfold sellR at h ⊢
  split at h
  · rename_i h1; exact absurd h h1
  rename_i h1
  split at h
  · cases h
  rename_i h2
  rw [if_neg h1, if_neg h2]
  obtain ⟨p1, p2⟩ := inW_zero (show (inW r n 1).1 = 0 by omega)
  have kw := wOk k p1
  generalize (inW r n 1).2.2 = w at *
  generalize (inW r n 1).2.1 = i at *
  unfold inN at ha
  refine ⟨setW_ok k p1 (w' := { w with state := 3, price := a }) ⟨kw.nm, kw.bn, kw.hairs, kw.done, kw.shed, kw.len, kw.lvl, kw.tone, kw.bl, kw.plait, by show (0 : Int) ≤ 3 ∧ (3 : Int) ≤ 3; omega, ha, kw.card⟩ rfl rfl rfl rfl k.lost ?_, rfl, few_of (x := 0) (y := a) (by omega) (by omega) (by simp [Rm.setW]) rfl⟩
  show r.bought - r.lost = r.bought - r.lost + (w.hairs - w.shed) - (w.hairs - w.shed); omega
theorem claim_stp {r : Rm} (k : r.Ok) {n : List UInt8} (h : (claimR r n).1 = 0) : Stp r (claimR r n).2 := by
  unfold claimR at h ⊢
  split at h
  · rename_i h1; exact absurd h h1
  rename_i h1
  split at h
  · cases h
  rename_i h2
  rw [if_neg h1, if_neg h2]
  obtain ⟨p1, p2⟩ := inW_zero (show (inW r n 3).1 = 0 by omega)
  have kw := wOk k p1
  generalize (inW r n 3).2.2 = w at *
  generalize (inW r n 3).2.1 = i at *
  have hp := kw.price
  refine ⟨setW_ok k p1 (w' := { w with state := 1, price := 0 }) ⟨kw.nm, kw.bn, kw.hairs, kw.done, kw.shed, kw.len, kw.lvl, kw.tone, kw.bl, kw.plait, by show (0 : Int) ≤ 1 ∧ (1 : Int) ≤ 3; omega, by show (0 : Int) ≤ 0 ∧ (0 : Int) ≤ 1000000; omega, kw.card⟩ rfl rfl rfl rfl k.lost ?_, rfl, few_of (x := 0) (y := -w.price) (by omega) (by omega) (by simp [Rm.setW]) rfl⟩
  show r.bought - r.lost = r.bought - r.lost + (w.hairs - w.shed) - (w.hairs - w.shed); omega
theorem add_card {c : List Ent} {p : Int} {t : ByteArray} (h : addE c p t = 0) : Card (addR c p t) := by
  obtain ⟨h1, h2, h3, h4, h5⟩ := addE_zero.1 h
  exact card_add h1 h2 h3 h4 h5
theorem back_stp {r : Rm} (k : r.Ok) {n : List UInt8} {a : Int} (ha : inN a) (h : (backR r n a).1 = 0) : Stp r (backR r n a).2 := by
  unfold backR at h ⊢
  split at h
  · rename_i h1; exact absurd h h1
  rename_i h1
  split at h
  · cases h
  rename_i h2
  split at h
  · rename_i h3; exact absurd h h3
  rename_i h3
  rw [if_neg h1, if_neg h2, if_neg h3]
  obtain ⟨p1, p2⟩ := inW_zero (show (inW r n 2).1 = 0 by omega)
  have kw := wOk k p1
  generalize (inW r n 2).2.2 = w at *
  generalize (inW r n 2).2.1 = i at *
  unfold inN at ha
  have hs := kw.shed
  have hk := k.lost
  generalize mkB (tSh ++ Lib.itoa a) = t at *
  have hc := add_card (show addE w.card 1 t = 0 by omega)
  refine ⟨setW_ok k p1 (w' := { w with state := 1, shed := w.shed + a, card := addR w.card 1 t }) ⟨kw.nm, kw.bn, kw.hairs, kw.done, ⟨by show 0 ≤ w.shed + a; omega, by show w.shed + a ≤ w.hairs; omega⟩, kw.len, kw.lvl, kw.tone, kw.bl, kw.plait, by show (0 : Int) ≤ 1 ∧ (1 : Int) ≤ 3; omega, kw.price, hc⟩ rfl rfl rfl rfl ?_ ?_, rfl, few_of (x := 0) (y := 0) (by omega) (by omega) (by simp [Rm.setW]) (by simp [Rm.setW])⟩
  · show 0 ≤ r.lost + a; omega
  · show r.bought - (r.lost + a) = r.bought - r.lost + (w.hairs - (w.shed + a)) - (w.hairs - w.shed); omega
theorem mend_stp {r : Rm} (k : r.Ok) {n m : List UInt8} {a : Int} (ha : inN a) (h : (mendR r n m a).1 = 0) : Stp r (mendR r n m a).2 := by
  unfold mendR at h ⊢
  split at h
  · rename_i h1; exact absurd h h1
  rename_i h1
  cases h5 : r.bun m with
  | none => simp [h5] at h
  | some j =>
    simp only [h5] at h ⊢
    split at h
    · cases h
    rename_i h2
    split at h
    · rename_i h3; exact absurd h h3
    rename_i h3
    split at h
    · rename_i h4; exact absurd h h4
    rename_i h4
    rw [if_neg h1, if_neg h2, if_neg h3, if_neg h4]
    obtain ⟨hj, _⟩ := bun_some h5
    obtain ⟨p1, p2⟩ := inW_zero (show (inW r n 1).1 = 0 by omega)
    have kw := wOk k p1
    generalize (inW r n 1).2.2 = w at *
    generalize (inW r n 1).2.1 = i at *
    unfold inN at ha
    have hs := kw.shed
    generalize mkB (tMe ++ Lib.itoa a) = t at *
    have hc := add_card (show addE w.card 0 t = 0 by omega)
    obtain ⟨d1, d2⟩ := cut_ok (hr_ok k j) (ofH_ok (count := a) (len := w.len) (by unfold inN; omega) kw.len) (by omega)
    rw [ofH_cnt kw.len] at d2
    have hb := setH_hairs hj (cutH (r.hr j) (ofH a w.len)).2
    generalize (cutH (r.hr j) (ofH a w.len)).2 = c at *
    -- the bundle first, as if its hairs were lost for a while
    have k1 : ({ r.setH j c with lost := r.lost + a } : Rm).Ok := setH_ok k hj d1 rfl rfl rfl (by have := k.lost; show 0 ≤ r.lost + a; omega) (by show r.bought - (r.lost + a) = r.bought - r.lost + c.cnt - (r.hr j).cnt; omega)
    refine ⟨setW_ok k1 (i := i) (w := w) p1 (w' := { w with shed := w.shed - a, card := addR w.card 0 t }) ⟨kw.nm, kw.bn, kw.hairs, kw.done, ⟨by show 0 ≤ w.shed - a; omega, by show w.shed - a ≤ w.hairs; omega⟩, kw.len, kw.lvl, kw.tone, kw.bl, kw.plait, kw.state, kw.price, hc⟩ rfl rfl rfl rfl k.lost ?_, rfl, few_of (x := 0) (y := 0) (by omega) (by omega) (by simp [Rm.setW, Rm.setH]) (by simp [Rm.setW, Rm.setH])⟩
    show r.bought - r.lost = r.bought - (r.lost + a) + (w.hairs - (w.shed - a)) - (w.hairs - w.shed); omega
structure Wrk (w w' : Wg) : Prop where
  name : w'.name = w.name
  hairs : w'.hairs = w.hairs
  shed : w'.shed = w.shed
  card : w'.card = w.card
  ok : w'.Ok
theorem join_ok {u v : ByteArray} (h : (joinR u v).2 = 0) : okW (mkB (joinR u v).1) = true := by
  unfold joinR at h ⊢
  split at h
  · rename_i h1
    split at h
    · cases h
    · rename_i h2
      rw [if_pos h1, if_neg h2]
      obtain ⟨a1, a2⟩ := okW_iff.1 h1.1
      obtain ⟨b1, b2⟩ := okW_iff.1 h1.2
      refine okW_iff.2 ⟨?_, ?_⟩
      · rw [← append_li, ByteArray.size_append]; omega
      · rw [li_mk]
        intro c hc
        rcases List.mem_append.1 hc with hc | hc
        · exact a2 c hc
        · exact b2 c hc
  · cases h
theorem dress_ok {w : Wg} (k : w.Ok) {o : Ordr} (ho : OrdS o) (h : (dressW o w).1.1 = 0) : Wrk w (dressW o w).1.2 := by
  have same : Wrk w w := ⟨rfl, rfl, rfl, rfl, k⟩
  unfold dressW at h ⊢
  split at h
  · unfold bleachW at h ⊢
    split at h
    · cases h
    · rename_i h2
      rw [if_neg h2]
      have := k.lvl; have := k.bl
      exact ⟨rfl, rfl, rfl, rfl, k.nm, k.bn, k.hairs, k.done, k.shed, k.len, by show 1 ≤ min (w.lvl + 2) 10 ∧ min (w.lvl + 2) 10 ≤ 10; omega, by show (0 : Int) ≤ 0 ∧ (0 : Int) ≤ 5; omega, by show 0 ≤ w.bl + 1 ∧ w.bl + 1 ≤ 3; omega, k.plait, k.state, k.price, k.card⟩
  · rename_i l t h1 h2
    unfold dyeW' at h ⊢
    split at h
    · cases h
    · rename_i h3
      split at h
      · cases h
      · rename_i h4
        rw [if_neg h3, if_neg h4]
        exact ⟨rfl, rfl, rfl, rfl, k.nm, k.bn, k.hairs, k.done, k.shed, k.len, by show 1 ≤ l ∧ l ≤ 10; omega, by show 0 ≤ t ∧ t ≤ 5; omega, k.bl, k.plait, k.state, k.price, k.card⟩
  · unfold plaitW at h ⊢
    split at h
    · rename_i h2; exact absurd h h2
    · rename_i h2
      split at h
      · rename_i h3; exact absurd h h3
      · rename_i h3
        rw [if_neg h2, if_neg h3]
        exact ⟨rfl, rfl, rfl, rfl, k.nm, k.bn, k.hairs, k.done, k.shed, k.len, k.lvl, k.tone, k.bl, join_ok (by omega), k.state, k.price, k.card⟩
  · exact ⟨rfl, rfl, rfl, rfl, k.nm, k.bn, k.hairs, k.done, k.shed, k.len, k.lvl, k.tone, k.bl, by show okW (mkB []) = true; decide, k.state, k.price, k.card⟩
  · rename_i n h1 h2
    unfold trimW at h ⊢
    split at h
    · cases h
    · rename_i h3
      rw [if_neg h3]
      have := k.len
      have hn : inN n := by
        cases ho with
        | nccc => simp at h2
        | nn => simp at h2
        | ncn => simp at h1
        | nc k n' a hk hn ha => simp only [List.cons.injEq, and_true] at h2; rw [← h2]; exact ha
        | n => simp at h2
        | nncc => simp at h2
        | ncc => simp at h2
        | ns => simp at h2
        | nnc => simp at h1
      unfold inN at hn
      exact ⟨rfl, rfl, rfl, rfl, k.nm, k.bn, k.hairs, k.done, k.shed, by show 1 ≤ w.len - n ∧ w.len - n ≤ 24; omega, k.lvl, k.tone, k.bl, k.plait, k.state, k.price, k.card⟩
  · exact same
theorem work_stp {r : Rm} (k : r.Ok) {o : Ordr} (ho : OrdS o) {n : List UInt8} (h : (workR r o n).1 = 0) : Stp r (workR r o n).2 := by
  unfold workR at h ⊢
  split at h
  · rename_i h1; exact absurd h h1
  rename_i h1
  split at h
  · rename_i h2; exact absurd h h2
  rename_i h2
  rw [if_neg h1, if_neg h2]
  obtain ⟨p1, p2⟩ := inW_zero (show (inW r n 1).1 = 0 by omega)
  have kw := wOk k p1
  generalize (inW r n 1).2.2 = w at *
  generalize (inW r n 1).2.1 = i at *
  have hd := dress_ok kw ho (by omega)
  generalize (dressW o w).1.2 = w' at *
  generalize mkB (dressW o w).2 = t at *
  unfold writeR at h ⊢
  split at h
  · rename_i h3; exact absurd h h3
  rename_i h3
  rw [if_neg h3]
  generalize mkB (dressW o w).2 = t at *
  have hc := add_card (show addE w'.card 0 t = 0 by omega)
  have kw' := hd.ok
  refine ⟨setW_ok k p1 (w' := { w' with card := addR w'.card 0 t }) ⟨kw'.nm, kw'.bn, kw'.hairs, kw'.done, kw'.shed, kw'.len, kw'.lvl, kw'.tone, kw'.bl, kw'.plait, kw'.state, kw'.price, hc⟩ hd.name rfl rfl rfl k.lost ?_, rfl, few_of (x := 0) (y := 0) (by omega) (by omega) (by simp [Rm.setW]) (by simp [Rm.setW])⟩
  show r.bought - r.lost = r.bought - r.lost + (w'.hairs - w'.shed) - (w.hairs - w.shed)
  rw [hd.hairs, hd.shed]; omega
theorem doO_stp {r : Rm} (k : r.Ok) {o : Ordr} (ho : OrdS o) (h : (doO r o).1 = 0) : Stp r (doO r o).2 := by
  cases ho with
  | nccc k' n a b c hk hn ha hb hc =>
    rcases hk with rfl | rfl
    · exact buy_stp k ha hb hc h
    · exact snap_stp k hc h
  | nn n m hn hm => exact mix_stp k h
  | ncn n m a hn hm ha => exact draw_stp k h
  | nc k' n a hk hn ha =>
    rcases hk with rfl | rfl | rfl | rfl | rfl
    · exact hack_stp k h
    · exact knot_stp k ha h
    · exact work_stp k (.nc 12 n a (by omega) hn ha) h
    · exact back_stp k ha h
    · exact sell_stp k ha h
  | n k' n hk hn =>
    rcases hk with rfl | rfl | rfl | rfl | rfl | rfl
    · exact turn_stp k h
    · exact work_stp k (.n 8 n (by omega) hn) h
    · exact work_stp k (.n 11 n (by omega) hn) h
    · exact work_stp k (.n 13 n (by omega) hn) h
    · exact lend_stp k h
    · exact claim_stp k h
  | nncc n m a b hn hm ha hb => exact begin_stp k ha h
  | ncc n a b hn ha hb => exact work_stp k (.ncc n a b hn ha hb) h
  | ns n s hn hs => exact work_stp k (.ns n s hn hs) h
  | nnc n m a hn hm ha => exact mend_stp k ha h
structure Rm.Good (r : Rm) : Prop where
  ok : r.Ok
  few : r.Few r.day.length
  day : r.day.length ≤ 300
  lines : ∀ t ∈ r.day, 1 ≤ t.length ∧ t.length ≤ 60
  again : runR r.day rm0 = r
  done : ∀ i, (h : i < r.day.length) → (doR r.day[i] (runR (r.day.take i) rm0)).1 = 0
theorem rm0_good : rm0.Good := ⟨rm0_ok, ⟨by simp [rm0], by simp [rm0]⟩, by simp [rm0], by simp [rm0], rfl, fun i h => by simp [rm0] at h⟩
theorem doR_zero {t : List UInt8} {r : Rm} (h : (doR t r).1 = 0) : ∃ o, parseO t = some o ∧ r.day.length < 300 ∧ (doO r o).1 = 0 ∧ (doR t r).2 = { (doO r o).2 with day := (doO r o).2.day ++ [t] } := by
  unfold doR at h ⊢
  split at h
  · cases h
  · rename_i o ho
    split at h
    · cases h
    · rename_i h1
      split at h
      · rename_i h2; exact absurd h h2
      · rename_i h2
        simp only [ho]
        rw [if_neg h1, if_neg h2]
        exact ⟨o, rfl, by omega, by omega, rfl⟩
theorem good_step {r : Rm} (g : r.Good) {t : List UInt8} (h : (doR t r).1 = 0) : (doR t r).2.Good ∧ (doR t r).2.day = r.day ++ [t] := by
  obtain ⟨o, h1, h2, h3, h4⟩ := doR_zero h
  obtain ⟨f1, f2, f3⟩ := parseO_form h1
  have s := doO_stp g.ok f1 h3
  have hd : (doR t r).2.day = r.day ++ [t] := by rw [h4]; show (doO r o).2.day ++ [t] = _; rw [s.day]
  have e := s.ok
  refine ⟨⟨?_, ?_, by rw [hd]; simp; omega, ?_, ?_, ?_⟩, hd⟩
  · rw [h4]; exact ⟨e.nb, e.hb, e.nw, e.hw, e.ub, e.uw, e.db, e.dw, e.lost, e.bal⟩
  · have := s.few _ g.few
    rw [hd, h4]
    simp only [List.length_append, List.length_singleton]
    exact ⟨this.bought, this.cash⟩
  · rw [hd]
    intro x hx
    rcases List.mem_append.1 hx with hx | hx
    · exact g.lines x hx
    · rw [List.mem_singleton.1 hx]; exact ⟨f2, f3⟩
  · rw [hd, runR_snoc, g.again]
  · intro i hi
    simp only [hd] at hi ⊢
    simp only [List.length_append, List.length_singleton] at hi
    rcases Nat.lt_or_ge i r.day.length with hl | hl
    · rw [List.getElem_append_left hl, List.take_append_of_le_length (by omega)]
      exact g.done i hl
    · have : i = r.day.length := by omega
      subst this
      rw [List.getElem_append_right (Nat.le_refl _), List.take_append_of_le_length (Nat.le_refl _), List.take_of_length_le (Nat.le_refl _), g.again]
      simpa using h
theorem good_do {r : Rm} (g : r.Good) (t : List UInt8) : (doR t r).2.Good := by
  by_cases h : (doR t r).1 = 0
  · exact (good_step g h).1
  · rw [doR_refused h]; exact g
end Go.Proofs.YtihhclhpjgeniaaGreatDoor
