/- Merged texts: Hq Rc -/
import Derived.Test.YtihhclhpjgeniaaGreatDoorSB8
import Derived.Test.YtihhclhpjgeniaaGreatDoorSB14
namespace Go.Proofs.YtihhclhpjgeniaaGreatDoor
def Hr.cnt (b : Hr) : Int := cntH b.op
theorem Hr.Ok.cnt {b : Hr} (h : b.Ok) : 0 ≤ b.cnt ∧ b.cnt ≤ 48000000 := by
 have := cnt_in h.op
 unfold Hr.cnt; omega
theorem fin_zero {h : Lck} (k : (fin h).1 = 0) : big h = false ∧ (fin h).2 = tieH h := by
 unfold fin at k ⊢
 split at k
 ·cases k
 ·rename_i hb
  exact ⟨by simpa using hb, by rw [if_neg hb]⟩
theorem fin_ok {h : Lck} (h0 : ∀ k n, 0 ≤ h k n) (k : (fin h).1 = 0) : (fin h).2.Ok ∧ (fin h).2.cnt = cntH h := by
 obtain ⟨hb, he⟩ := fin_zero k
 rw [he]
 exact ⟨tie_ok fun w hw n h1 h2 => ⟨h0 w n, big_no hb w hw n h1 h2⟩, cnt_tie h⟩
theorem tie_in {h : Lck} (hh : h.In 1000000) : (tieH h).Ok ∧ (tieH h).cnt = cntH h := ⟨tie_ok fun w _ n _ _ => hh w n, cnt_tie h⟩
theorem cnt_add (f g : Lck) : cntH (fun k n => f k n + g k n) = cntH f + cntH g := by
 unfold cntH
 rw [← sumTo_add]
 exact sumTo_congr fun i _ _ => by dsimp only; omega
theorem mix_ok {a b : Hr} (ha : a.Ok) (hb : b.Ok) (k : (mixH a b).1 = 0) : (mixH a b).2.Ok ∧ (mixH a b).2.cnt = a.cnt + b.cnt := by
 have h0 : ∀ k n, 0 ≤ a.op k n + b.op k n := fun k n => by have := (ha.op k n).1; have := (hb.op k n).1; omega
 obtain ⟨h1, h2⟩ := fin_ok h0 k
 exact ⟨h1, by unfold mixH; rw [h2, cnt_add]; rfl⟩
theorem turn_ok {a : Hr} (ha : a.Ok) (k : (turnH a).1 = 0) : (turnH a).2.Ok ∧ (turnH a).2.cnt = a.cnt := by
 have h0 : ∀ k n, 0 ≤ turnL a.op k n := fun k n => by
  have := (ha.op 0 n).1; have := (ha.op 1 n).1
  unfold turnL; split <;> omega
 obtain ⟨h1, h2⟩ := fin_ok h0 k
 refine ⟨h1, ?_⟩
 unfold turnH; rw [h2]
 exact sumTo_congr fun i _ _ => by simp [turnL]
theorem hack_ok {a : Hr} (ha : a.Ok) (n : Int) (k : (hackH a n).1 = 0) : (hackH a n).2.1.Ok ∧ (hackH a n).2.2.Ok ∧ a.cnt = (hackH a n).2.1.cnt + (hackH a n).2.2.cnt := by
 unfold hackH at k ⊢
 split at k
 ·cases k
 ·rename_i hn
  rw [if_neg hn]
  have i1 : (keptL a.op n.toNat).In 1000000 := fun k n => by have := ha.op k n; unfold keptL; split <;> omega
  have i2 : (shortL a.op n.toNat).In 1000000 := fun k n => by have := ha.op k n; unfold shortL; split <;> omega
  refine ⟨(tie_in i1).1, (tie_in i2).1, ?_⟩
  rw [(tie_in i1).2, (tie_in i2).2, ← cnt_add]
  exact sumTo_congr fun i _ _ => by dsimp only [keptL, shortL]; split <;> omega
theorem tk_in {h : Lck} (hh : ∀ k n, 0 ≤ h k n) {n : Int} {m : Nat} (h0 : 0 ≤ n) (h1 : n ≤ h 0 m + h 1 m) : (0 ≤ tk h n m 0 ∧ tk h n m 0 ≤ h 0 m) ∧ (0 ≤ tk h n m 1 ∧ tk h n m 1 ≤ h 1 m) ∧ tk h n m 0 + tk h n m 1 = n := by
 have := hh 0 m; have := hh 1 m
 simp only [tk, if_true, if_neg (show ¬ (1 : Nat) = 0 by omega)]
 omega
theorem lft_in {h : Lck} (hh : ∀ k n, 0 ≤ h k n) {n : Int} (h0 : 0 ≤ n) : ∀ d, 0 ≤ lft h n d ∧ lft h n d ≤ n
 | 0 => ⟨h0, Int.le_refl _⟩
 | d + 1 => by
  have := lft_in hh h0 d
  have := hh 0 (24 - d); have := hh 1 (24 - d)
  simp only [lft]; omega
theorem dr_in {h : Lck} (hh : ∀ k n, 0 ≤ h k n) {n : Int} (h0 : 0 ≤ n) (m : Nat) {k : Nat} (hk : k < 2) : 0 ≤ dr h n m k ∧ dr h n m k ≤ h k m := by
 have a := lft_in hh h0 (24 - m)
 have b := hh 0 m; have c := hh 1 m
 have t := tk_in hh (n := min (lft h n (24 - m)) (h 0 m + h 1 m)) (m := m) (by omega) (by omega)
 unfold dr
 rcases (show k = 0 ∨ k = 1 by omega) with rfl | rfl
 ·exact t.1
 ·exact t.2.1
theorem draw_ok {a : Hr} (ha : a.Ok) (n : Int) (k : (drawH a n).1 = 0) : (drawH a n).2.1.Ok ∧ (drawH a n).2.2.Ok ∧ a.cnt = (drawH a n).2.2.cnt + (drawH a n).2.1.cnt := by
 unfold drawH at k ⊢
 split at k
 ·cases k
 ·rename_i h1
  split at k
  ·cases k
  ·rename_i h2
   rw [if_neg h1, if_neg h2]
   have hh : ∀ k n, 0 ≤ a.op k n := fun k n => (ha.op k n).1
   have j1 : (tieH (drawL a.op n)).Ok := tie_ok fun w hw m q1 q2 => by
    have := dr_in hh (n := n) (by omega) m hw
    have := (ha.op w m).2
    unfold drawL; rw [if_neg (by omega)]; omega
   have j2 : (tieH (restL a.op n)).Ok := tie_ok fun w hw m q1 q2 => by
    have := dr_in hh (n := n) (by omega) m hw
    have := (ha.op w m).2
    unfold restL; rw [if_neg (by omega)]; omega
   refine ⟨j1, j2, ?_⟩
   show _ = cntH _ + cntH _
   rw [cnt_tie, cnt_tie, ← cnt_add]
   exact sumTo_congr fun i q1 q2 => by
    have : ∀ k, restL a.op n k i + drawL a.op n k i = a.op k i := fun k => by
     unfold restL drawL; rw [if_neg (by omega), if_neg (by omega)]; omega
    show _ = (restL a.op n 0 i + drawL a.op n 0 i) + (restL a.op n 1 i + drawL a.op n 1 i)
    rw [this 0, this 1]
theorem sumTo_one {f g : Nat → Int} {m : Nat} {d : Int} (hm : g m = f m + d) (ho : ∀ i, i ≠ m → g i = f i) : ∀ n, 1 ≤ m → m ≤ n → sumTo g n = sumTo f n + d
 | 0, h1, h2 => by omega
 | n + 1, h1, h2 => by
  show sumTo g n + g (n + 1) = sumTo f n + f (n + 1) + d
  by_cases e : m = n + 1
  ·subst e
   rw [hm, sumTo_congr (f := g) (g := f) fun i a b => ho i (by omega)]; omega
  ·rw [sumTo_one hm ho n h1 (by omega), ho (n + 1) (by omega)]; omega
theorem cnt_take {h : Lck} {m : Nat} (h1 : 1 ≤ m) (h2 : m ≤ 24) (r : Nat → Int) : cntH (takeL h m r) = cntH h - (r 0 + r 1) := by
 have := sumTo_one (f := fun n => h 0 n + h 1 n) (g := fun n => takeL h m r 0 n + takeL h m r 1 n) (m := m) (d := -(r 0 + r 1))
  (by simp only [takeL, if_true]; omega) (fun i hi => by simp only [takeL, if_neg hi]) 24 h1 h2
 unfold cntH; rw [this]; omega
theorem cnt_give {h : Lck} {m : Nat} (h1 : 1 ≤ m) (h2 : m ≤ 24) (r : Nat → Int) : cntH (giveL h m r) = cntH h + (r 0 + r 1) := by
 have := sumTo_one (f := fun n => h 0 n + h 1 n) (g := fun n => giveL h m r 0 n + giveL h m r 1 n) (m := m) (d := (r 0 + r 1))
  (by simp only [giveL, if_true]; omega) (fun i hi => by simp only [giveL, if_neg hi]) 24 h1 h2
 unfold cntH; rw [this]
theorem op_two (a : Hr) {k : Nat} (hk : ¬ k < 2) (n : Nat) : a.op k n = 0 := by
 unfold Hr.op; rw [if_neg (by omega), if_neg (by omega)]
theorem snap_ok {a : Hr} (ha : a.Ok) (len at' n : Int) (k : (snapH a len at' n).1 = 0) : (snapH a len at' n).2.Ok ∧ (snapH a len at' n).2.cnt = a.cnt + n ∧ 0 ≤ n := by
 unfold snapH at k ⊢
 split at k
 ·cases k
 ·rename_i h1
  split at k
  ·cases k
  ·rename_i h2
   rw [if_neg h1, if_neg h2]
   have hh : ∀ k n, 0 ≤ a.op k n := fun k n => (ha.op k n).1
   have t := tk_in hh (n := n) (m := len.toNat) (by omega) (by omega)
   obtain ⟨hb, he⟩ := fin_zero k
   rw [he]
   refine ⟨tie_ok fun w hw m q1 q2 => ⟨?_, big_no hb w hw m q1 q2⟩, ?_, by omega⟩
   ·have h3 := hh w m
    have t2 : 0 ≤ tk a.op n len.toNat w ∧ tk a.op n len.toNat w ≤ a.op w len.toNat := by
     rcases (show w = 0 ∨ w = 1 by omega) with rfl | rfl
     ·exact t.1
     ·exact t.2.1
    have t3 : 0 ≤ takeL a.op len.toNat (tk a.op n len.toNat) w m := by
     unfold takeL; split
     ·rename_i e; subst e; omega
     ·exact h3
    have t4 : 0 ≤ giveL (takeL a.op len.toNat (tk a.op n len.toNat)) at'.toNat (tk a.op n len.toNat) w m := by
     generalize takeL a.op len.toNat (tk a.op n len.toNat) = g at t3
     unfold giveL; split <;> omega
    unfold snapL
    generalize giveL (takeL a.op len.toNat (tk a.op n len.toNat)) at'.toNat (tk a.op n len.toNat) = g at t4
    unfold giveL; split <;> omega
   ·show cntH _ = _
    rw [cnt_tie]
    unfold snapL
    rw [cnt_give (by omega) (by omega), cnt_give (by omega) (by omega), cnt_take (by omega) (by omega)]
    have := t.2.2
    unfold Hr.cnt; omega
def Lck.In2 (h : Lck) (M : Int) : Prop := ∀ k, k < 2 → ∀ n, 0 ≤ h k n ∧ h k n ≤ M
theorem Lck.In.two {h : Lck} {M : Int} (k : h.In M) : h.In2 M := fun i _ n => k i n
theorem take_in2 {h : Lck} {M : Int} (hh : h.In2 M) {j : Nat} {n : Int} (h0 : 0 ≤ n) (h1 : n ≤ h 0 j + h 1 j) : (takeL h j (tk h n j)).In2 M ∧ tk h n j 0 + tk h n j 1 = n := by
 have a0 := hh 0 (by omega) j
 have a1 := hh 1 (by omega) j
 have e0 : tk h n j 0 = min n (h 0 j) := rfl
 have e1 : tk h n j 1 = n - min n (h 0 j) := rfl
 refine ⟨fun k hk m => ?_, by omega⟩
 have a := hh k hk m
 unfold takeL
 split
 ·rename_i e; subst e
  rcases (show k = 0 ∨ k = 1 by omega) with rfl | rfl <;> omega
 ·exact a
theorem cin_ok : ∀ (c j : Nat) (h : Lck) (need : Int), 1 ≤ j → c + j ≤ 25 → 0 ≤ need → h.In2 1000000 →
  (cin c j h need).1.In2 1000000 ∧ 0 ≤ (cin c j h need).2 ∧ (cin c j h need).2 ≤ need ∧ cntH h = cntH (cin c j h need).1 + (need - (cin c j h need).2)
 | 0, j, h, need, _, _, h0, hh => ⟨hh, h0, Int.le_refl _, by simp [cin]⟩
 | c + 1, j, h, need, hj, hc, h0, hh => by
  have a0 := hh 0 (by omega) j
  have a1 := hh 1 (by omega) j
  obtain ⟨k1, k2⟩ := take_in2 hh (j := j) (n := min need (h 0 j + h 1 j)) (by omega) (by omega)
  obtain ⟨r1, r2, r3, r4⟩ := cin_ok c (j + 1) _ (need - min need (h 0 j + h 1 j)) (by omega) (by omega) (by omega) k1
  rw [cnt_take hj (by omega)] at r4
  simp only [cin]
  exact ⟨r1, r2, by omega, by omega⟩
theorem cout_ok (y : Lck) (hy : y.In2 1000000) : ∀ (i : Nat) (h h' : Lck), i ≤ 24 → h.In2 1000000 → cout y i h = some h' → h'.In2 1000000 ∧ cntH h = cntH h' + sumTo (fun n => y 0 n + y 1 n) i
 | 0, h, h', _, hh, he => by
  simp only [cout, Option.some.injEq] at he
  subst he
  exact ⟨hh, by simp [sumTo]⟩
 | i + 1, h, h', hi, hh, he => by
  have a0 := hy 0 (by omega) (i + 1)
  have a1 := hy 1 (by omega) (i + 1)
  obtain ⟨r1, r2, r3, r4⟩ := cin_ok (24 - i) (i + 1) h (y 0 (i + 1) + y 1 (i + 1)) (by omega) (by omega) (by omega) hh
  simp only [cout] at he
  split at he
  ·cases he
  ·obtain ⟨s1, s2⟩ := cout_ok y hy i _ h' (by omega) r1 he
   refine ⟨s1, ?_⟩
   simp only [sumTo]
   omega
theorem cut_ok {a y : Hr} (ha : a.Ok) (hy : y.Ok) (k : (cutH a y).1 = 0) : (cutH a y).2.Ok ∧ a.cnt = (cutH a y).2.cnt + y.cnt := by
 unfold cutH at k ⊢
 cases he : cout y.op 24 a.op with
 | none => rw [he] at k; cases k
 | some h =>
  obtain ⟨s1, s2⟩ := cout_ok y.op hy.op.two 24 a.op h (by omega) ha.op.two he
  refine ⟨tie_ok fun w hw n _ _ => s1 w hw n, ?_⟩
  show _ = cntH (tieH h).op + _
  rw [cnt_tie]
  exact s2
end Go.Proofs.YtihhclhpjgeniaaGreatDoor
namespace Go.Proofs.YtihhclhpjgeniaaGreatDoor
structure Wg.Ok (w : Wg) : Prop where
 nm : okName w.name = true
 bn : okName w.bun = true
 hairs : 1 ≤ w.hairs ∧ w.hairs ≤ 1000000
 done : 0 ≤ w.done ∧ w.done ≤ w.hairs
 shed : 0 ≤ w.shed ∧ w.shed ≤ w.hairs
 len : 1 ≤ w.len ∧ w.len ≤ 24
 lvl : 1 ≤ w.lvl ∧ w.lvl ≤ 10
 tone : 0 ≤ w.tone ∧ w.tone ≤ 5
 bl : 0 ≤ w.bl ∧ w.bl ≤ 3
 plait : okW (mkB w.plait) = true
 state : 0 ≤ w.state ∧ w.state ≤ 3
 price : 0 ≤ w.price ∧ w.price ≤ 1000000
 card : Card w.card
def hairsB (l : List (List UInt8 × Hr)) : Int := (l.map fun b => b.2.cnt).sum
def hairsW (l : List Wg) : Int := (l.map fun w => w.hairs - w.shed).sum
structure Rm.Ok (r : Rm) : Prop where
 nb : r.bs.length ≤ 12
 hb : ∀ b ∈ r.bs, okName b.1 = true ∧ b.2.Ok
 nw : r.ws.length ≤ 12
 hw : ∀ w ∈ r.ws, w.Ok
 ub : ∀ b ∈ r.bs, b.1 ∈ r.used
 uw : ∀ w ∈ r.ws, w.name ∈ r.used
 db : (r.bs.map (·.1)).Nodup
 dw : (r.ws.map (·.name)).Nodup
 lost : 0 ≤ r.lost
 bal : r.bought = r.lost + hairsB r.bs + hairsW r.ws
structure Rm.Few (r : Rm) (n : Nat) : Prop where
 bought : r.bought ≤ 1000000 * n
 cash : -(1000000 * (n : Int)) ≤ r.cash ∧ r.cash ≤ 1000000 * n
theorem rm0_ok : rm0.Ok := ⟨by simp [rm0], by simp [rm0], by simp [rm0], by simp [rm0], by simp [rm0], by simp [rm0], by simp [rm0], by simp [rm0], by simp [rm0], by simp [rm0, hairsB, hairsW]⟩
theorem hairsB_in {l : List (List UInt8 × Hr)} (h : ∀ b ∈ l, b.2.Ok) : 0 ≤ hairsB l ∧ hairsB l ≤ 48000000 * l.length := by
 induction l with
 | nil => simp [hairsB]
 | cons b l ih =>
  have a := ih fun c hc => h c (List.mem_cons_of_mem _ hc)
  have k := (h b List.mem_cons_self).cnt
  simp only [hairsB, List.map_cons, List.sum_cons, List.length_cons] at a ⊢
  push_cast
  omega
theorem hairsW_in {l : List Wg} (h : ∀ w ∈ l, w.Ok) : 0 ≤ hairsW l ∧ hairsW l ≤ 1000000 * l.length := by
 induction l with
 | nil => simp [hairsW]
 | cons w l ih =>
  have a := ih fun c hc => h c (List.mem_cons_of_mem _ hc)
  have k := (h w List.mem_cons_self).shed
  have k2 := (h w List.mem_cons_self).hairs
  simp only [hairsW, List.map_cons, List.sum_cons, List.length_cons] at a ⊢
  push_cast
  omega
theorem sum_modify {α : Type} (f : α → Int) (g : α → α) (l : List α) (i : Nat) (h : i < l.length) : ((l.modify i g).map f).sum = (l.map f).sum - f l[i] + f (g l[i]) := by
 induction l generalizing i with
 | nil => simp at h
 | cons a l ih =>
  cases i with
  | zero => simp only [List.modify_zero_cons, List.map_cons, List.sum_cons, List.getElem_cons_zero]; omega
  | succ i =>
   simp only [List.modify_succ_cons, List.map_cons, List.sum_cons, List.getElem_cons_succ]
   rw [ih i (by simpa using h)]; omega
theorem sum_set {α : Type} (f : α → Int) (l : List α) (i : Nat) (x : α) (h : i < l.length) : ((l.set i x).map f).sum = (l.map f).sum - f l[i] + f x := by
 induction l generalizing i with
 | nil => simp at h
 | cons a l ih =>
  cases i with
  | zero => simp only [List.set_cons_zero, List.map_cons, List.sum_cons, List.getElem_cons_zero]; omega
  | succ i =>
   simp only [List.set_cons_succ, List.map_cons, List.sum_cons, List.getElem_cons_succ]
   rw [ih i (by simpa using h)]; omega
theorem sum_erase {α : Type} (f : α → Int) (l : List α) (i : Nat) (h : i < l.length) : ((l.eraseIdx i).map f).sum = (l.map f).sum - f l[i] := by
 induction l generalizing i with
 | nil => simp at h
 | cons a l ih =>
  cases i with
  | zero => simp only [List.eraseIdx_cons_zero, List.map_cons, List.sum_cons, List.getElem_cons_zero]; omega
  | succ i =>
   simp only [List.eraseIdx_cons_succ, List.map_cons, List.sum_cons, List.getElem_cons_succ]
   rw [ih i (by simpa using h)]; omega
theorem findIdx_lt {α : Type} {p : α → Bool} {l : List α} {i : Nat} (h : l.findIdx? p = some i) : ∃ hi : i < l.length, p l[i] = true := by
 rw [List.findIdx?_eq_some_iff_getElem] at h
 obtain ⟨hi, hp, _⟩ := h
 exact ⟨hi, hp⟩
theorem bun_some {r : Rm} {n : List UInt8} {i : Nat} (h : r.bun n = some i) : ∃ hi : i < r.bs.length, r.bs[i].1 = n := by
 obtain ⟨hi, hp⟩ := findIdx_lt h
 exact ⟨hi, by simpa using hp⟩
theorem hr_at {r : Rm} {i : Nat} (hi : i < r.bs.length) : r.hr i = r.bs[i].2 := by
 unfold Rm.hr
 rw [List.getElem?_eq_getElem hi]; rfl
theorem hr_ok {r : Rm} (h : r.Ok) (i : Nat) : (r.hr i).Ok := by
 unfold Rm.hr
 rcases Nat.lt_or_ge i r.bs.length with hi | hi
 ·rw [List.getElem?_eq_getElem hi]; exact (h.hb _ (List.getElem_mem hi)).2
 ·rw [List.getElem?_eq_none hi]; exact noH_ok
theorem fresh_iff {r : Rm} {n : List UInt8} : r.fresh n = true ↔ okName n = true ∧ n ∉ r.used := by
 simp [Rm.fresh]
theorem mem_modify {α : Type} {g : α → α} {l : List α} {i : Nat} {x : α} (h : x ∈ l.modify i g) : x ∈ l ∨ ∃ hi : i < l.length, x = g l[i] := by
 induction l generalizing i with
 | nil => simp at h
 | cons a l ih =>
  cases i with
  | zero =>
   simp only [List.modify_zero_cons, List.mem_cons] at h
   rcases h with rfl | h
   ·exact .inr ⟨by simp, rfl⟩
   ·exact .inl (List.mem_cons_of_mem _ h)
  | succ i =>
   simp only [List.modify_succ_cons, List.mem_cons] at h
   rcases h with rfl | h
   ·exact .inl List.mem_cons_self
   ·rcases ih h with h | ⟨hi, h⟩
    ·exact .inl (List.mem_cons_of_mem _ h)
    ·exact .inr ⟨by simpa using hi, by simpa using h⟩
theorem map_modify {α β : Type} {g : α → α} {f : α → β} (hf : ∀ a, f (g a) = f a) (l : List α) (i : Nat) : (l.modify i g).map f = l.map f := by
 induction l generalizing i with
 | nil => simp
 | cons a l ih =>
  cases i with
  | zero => simp [hf]
  | succ i => simp [ih i]
theorem setH_hairs {r : Rm} {i : Nat} (hi : i < r.bs.length) (h : Hr) : hairsB (r.setH i h).bs = hairsB r.bs - (r.hr i).cnt + h.cnt := by
 unfold hairsB Rm.setH
 rw [sum_modify _ _ _ _ hi, hr_at hi]
theorem setH_mem {r : Rm} (k : r.Ok) {i : Nat} {h : Hr} (hh : h.Ok) {b : List UInt8 × Hr} (hb : b ∈ (r.setH i h).bs) : okName b.1 = true ∧ b.2.Ok ∧ b.1 ∈ r.used := by
 rcases mem_modify hb with hb | ⟨hi, rfl⟩
 ·exact ⟨(k.hb b hb).1, (k.hb b hb).2, k.ub b hb⟩
 ·have hm := List.getElem_mem hi
  exact ⟨(k.hb _ hm).1, hh, show r.bs[i].1 ∈ r.used from k.ub _ hm⟩
theorem setH_names (r : Rm) (i : Nat) (h : Hr) : (r.setH i h).bs.map (·.1) = r.bs.map (·.1) := map_modify (g := fun b : List UInt8 × Hr => (b.1, h)) (f := (·.1)) (fun _ => rfl) _ _
theorem ofH_ok {count len : Int} (hc : inN count) (hl : 1 ≤ len ∧ len ≤ 24) : (ofH count len).Ok := by
 unfold ofH
 split
 ·exact noH_ok
 ·refine ⟨?_, by simp, ?_, by simp⟩
  ·simp only [List.length_append, List.length_replicate, List.length_singleton]; omega
  ·intro z hz
   simp only [List.mem_append, List.mem_replicate, List.mem_singleton] at hz
   unfold inN at hc
   rcases hz with ⟨_, rfl⟩ | rfl <;> omega
theorem at1_of {count len : Int} (hl : 1 ≤ len ∧ len ≤ 24) (n : Nat) : at1 (List.replicate (len.toNat - 1) 0 ++ [count]) n = if n = len.toNat then count else 0 := by
 cases n with
 | zero => simp only [at1]; rw [if_neg (by omega)]
 | succ n =>
  show (List.replicate (len.toNat - 1) 0 ++ [count]).getD n 0 = _
  rw [List.getD_eq_getElem?_getD]
  rcases Nat.lt_trichotomy n (len.toNat - 1) with h | h | h
  ·rw [List.getElem?_append_left (by simpa using h), if_neg (by omega)]
   simp [List.getElem?_replicate]; split <;> rfl
  ·rw [List.getElem?_append_right (by simp; omega), if_pos (by omega)]
   simp [h]
  ·rw [List.getElem?_eq_none (by simp; omega), if_neg (by omega)]; rfl
theorem ofH_cnt {count len : Int} (hl : 1 ≤ len ∧ len ≤ 24) : (ofH count len).cnt = count := by
 unfold ofH
 split
 ·rename_i h; subst h
  show cntH _ = _
  unfold cntH
  rw [sumTo_congr (g := fun _ => 0) fun i _ _ => by simp only [noH, Hr.op]; cases i <;> simp [at1]]
  decide
 ·show cntH _ = _
  have := sumTo_one (f := fun _ => 0) (g := fun n => Hr.op ⟨List.replicate (len.toNat - 1) 0 ++ [count], []⟩ 0 n + Hr.op ⟨List.replicate (len.toNat - 1) 0 ++ [count], []⟩ 1 n) (m := len.toNat) (d := count)
   (by simp only [Hr.op, if_true, if_neg (show ¬ (1 : Nat) = 0 by omega)]; rw [at1_of hl, if_pos rfl]; cases len.toNat <;> simp [at1])
   (fun i hi => by simp only [Hr.op, if_true, if_neg (show ¬ (1 : Nat) = 0 by omega)]; rw [at1_of hl, if_neg hi]; cases i <;> simp [at1]) 24 (by omega) (by omega)
  unfold cntH
  rw [this]
  have z : sumTo (fun _ => 0) 24 = 0 := by decide
  rw [z]; omega
theorem setH_ok {r r' : Rm} (k : r.Ok) {i : Nat} (hi : i < r.bs.length) {h : Hr} (hh : h.Ok) (e1 : r'.bs = (r.setH i h).bs) (e2 : r'.ws = r.ws) (e3 : r'.used = r.used)
  (e4 : 0 ≤ r'.lost) (e5 : r'.bought - r'.lost = r.bought - r.lost + h.cnt - (r.hr i).cnt) : r'.Ok := by
 refine ⟨?_, ?_, by rw [e2]; exact k.nw, by rw [e2]; exact k.hw, ?_, ?_, ?_, by rw [e2]; exact k.dw, e4, ?_⟩
 ·rw [e1]; simp [Rm.setH]; exact k.nb
 ·intro b hb; rw [e1] at hb; have := setH_mem k hh hb; exact ⟨this.1, this.2.1⟩
 ·intro b hb; rw [e1] at hb; rw [e3]; exact (setH_mem k hh hb).2.2
 ·rw [e2, e3]; exact k.uw
 ·rw [e1, setH_names]; exact k.db
 ·rw [e1, e2, setH_hairs hi]
  have := k.bal; omega
theorem put_ok {r r' : Rm} (k : r.Ok) {n : List UInt8} (hn : r.fresh n = true) (hl : r.bs.length < 12) {h : Hr} (hh : h.Ok) (e1 : r'.bs = r.bs ++ [(n, h)]) (e2 : r'.ws = r.ws) (e3 : r'.used = r.used ++ [n])
  (e4 : r'.lost = r.lost) (e5 : r'.bought = r.bought + h.cnt) : r'.Ok := by
 obtain ⟨h1, h2⟩ := fresh_iff.1 hn
 refine ⟨?_, ?_, by rw [e2]; exact k.nw, by rw [e2]; exact k.hw, ?_, ?_, ?_, by rw [e2]; exact k.dw, by rw [e4]; exact k.lost, ?_⟩
 ·rw [e1]; simp; omega
 ·intro b hb; rw [e1] at hb
  rcases List.mem_append.1 hb with hb | hb
  ·exact k.hb b hb
  ·rw [List.mem_singleton.1 hb]; exact ⟨h1, hh⟩
 ·intro b hb; rw [e1] at hb; rw [e3]
  rcases List.mem_append.1 hb with hb | hb
  ·exact List.mem_append_left _ (k.ub b hb)
  ·rw [List.mem_singleton.1 hb]; simp
 ·intro w hw; rw [e2] at hw; rw [e3]; exact List.mem_append_left _ (k.uw w hw)
 ·rw [e1, List.map_append, List.nodup_append]
  refine ⟨k.db, by simp, ?_⟩
  intro a ha b hb
  simp only [List.map_cons, List.map_nil, List.mem_singleton] at hb
  subst hb
  obtain ⟨x, hx, rfl⟩ := List.mem_map.1 ha
  exact fun e => h2 (by rw [← e]; exact k.ub x hx)
 ·rw [e1, e2, e4, e5]
  have := k.bal
  have e : hairsB (r.bs ++ [(n, h)]) = hairsB r.bs + h.cnt := by simp [hairsB]
  omega
theorem setW_ok {r r' : Rm} (k : r.Ok) {i : Nat} {w : Wg} (hi : r.ws[i]? = some w) {w' : Wg} (hw : w'.Ok) (hn : w'.name = w.name) (e1 : r'.bs = r.bs) (e2 : r'.ws = r.ws.set i w') (e3 : r'.used = r.used)
  (e4 : 0 ≤ r'.lost) (e5 : r'.bought - r'.lost = r.bought - r.lost + (w'.hairs - w'.shed) - (w.hairs - w.shed)) : r'.Ok := by
 obtain ⟨hl, he⟩ := List.getElem?_eq_some_iff.1 hi
 refine ⟨by rw [e1]; exact k.nb, by rw [e1]; exact k.hb, by rw [e2]; simp; exact k.nw, ?_, by rw [e1, e3]; exact k.ub, ?_, by rw [e1]; exact k.db, ?_, e4, ?_⟩
 ·intro x hx; rw [e2] at hx
  rcases List.mem_or_eq_of_mem_set hx with hx | rfl
  ·exact k.hw x hx
  ·exact hw
 ·intro x hx; rw [e2] at hx; rw [e3]
  rcases List.mem_or_eq_of_mem_set hx with hx | rfl
  ·exact k.uw x hx
  ·rw [hn, ← he]; exact k.uw _ (List.getElem_mem hl)
 ·rw [e2, List.map_set, hn, ← he, ← List.getElem_map (f := fun w : Wg => w.name) (h := by simpa using hl), List.set_getElem_self]; exact k.dw
 ·rw [e1, e2]
  have := k.bal
  have e : hairsW (r.ws.set i w') = hairsW r.ws - (w.hairs - w.shed) + (w'.hairs - w'.shed) := by
   unfold hairsW
   rw [sum_set _ _ _ _ hl, he]
  omega
end Go.Proofs.YtihhclhpjgeniaaGreatDoor
