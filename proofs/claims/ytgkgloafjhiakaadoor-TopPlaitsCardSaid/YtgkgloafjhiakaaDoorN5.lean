/- Walks: how often each strand is over and under. -/
import Derived.Test.YtgkgloafjhiakaaDoorN4
namespace Go.Proofs.YtgkgloafjhiakaaDoor
open Go.RowKit Go.Sort

def overR (t : ByteArray) : T3 := if okW t then (runL (liB t)).over else (0, 0, 0)
def underR (t : ByteArray) : T3 := if okW t then (runL (liB t)).under else (0, 0, 0)
theorem overR_ok {t : ByteArray} (h : okW t = true) : overR t = (runL (liB t)).over := by simp [overR, h]
theorem overR_no {t : ByteArray} (h : okW t = false) : overR t = (0, 0, 0) := by simp [overR, h]
theorem underR_ok {t : ByteArray} (h : okW t = true) : underR t = (runL (liB t)).under := by simp [underR, h]
theorem underR_no {t : ByteArray} (h : okW t = false) : underR t = (0, 0, 0) := by simp [underR, h]
/-- The three blocks of the walk along the strands. -/
structure ThreeAt (w0 w : World) (B Y : Nat) (a o u : T3) : Prop where
  ov : TriAt w B o
  un : TriAt w (B + 1) u
  pl : TriAt w Y a
  bel : Below B w0 w
  lt : B + 1 < Y
theorem ThreeAt.incO {w0 w : World} {B Y : Nat} {a o u : T3} (h : ThreeAt w0 w B Y a o u) {i : Nat} (hi : i < 3) : ThreeAt w0 (w.setCell ⟨B, i, none⟩ (.int .i64 ((get3 o i : Int) + 1))) B Y a (inc o i) u :=
  ⟨by rw [← st3_inc o hi]; exact h.ov.put hi (get3 o i + 1), h.un.far (by omega) _, h.pl.far (by have := h.lt; omega) _, below_set h.bel (Nat.le_refl B) _, h.lt⟩
theorem ThreeAt.incU {w0 w : World} {B Y : Nat} {a o u : T3} (h : ThreeAt w0 w B Y a o u) {i : Nat} (hi : i < 3) : ThreeAt w0 (w.setCell ⟨B + 1, i, none⟩ (.int .i64 ((get3 u i : Int) + 1))) B Y a o (inc u i) :=
  ⟨h.ov.far (by omega) _, by rw [← st3_inc u hi]; exact h.un.put hi (get3 u i + 1), h.pl.far (by have := h.lt; omega) _, below_set h.bel (Nat.le_succ B) _, h.lt⟩
theorem ThreeAt.ley {w0 w : World} {B Y : Nat} {a o u : T3} (h : ThreeAt w0 w B Y a o u) : B ≤ Y := by have := h.lt; omega
theorem ThreeAt.setAt0 {w0 w : World} {B Y : Nat} {p q r : Nat} {o u : T3} (h : ThreeAt w0 w B Y (p, q, r) o u) : ThreeAt w0 ((w.setCell ⟨Y, 0, none⟩ (.int .i64 (q : Nat))).setCell ⟨Y, 1, none⟩ (.int .i64 (p : Nat))) B Y (q, p, r) o u :=
  ⟨(h.ov.far (by have := h.lt; omega) _).far (by have := h.lt; omega) _, (h.un.far (by have := h.lt; omega) _).far (by have := h.lt; omega) _, (h.pl.s0 q).s1 p, below_set (below_set h.bel h.ley _) h.ley _, h.lt⟩
theorem ThreeAt.setAt1 {w0 w : World} {B Y : Nat} {p q r : Nat} {o u : T3} (h : ThreeAt w0 w B Y (p, q, r) o u) : ThreeAt w0 ((w.setCell ⟨Y, 1, none⟩ (.int .i64 (r : Nat))).setCell ⟨Y, 2, none⟩ (.int .i64 (q : Nat))) B Y (p, r, q) o u :=
  ⟨(h.ov.far (by have := h.lt; omega) _).far (by have := h.lt; omega) _, (h.un.far (by have := h.lt; omega) _).far (by have := h.lt; omega) _, (h.pl.s1 r).s2 q, below_set (below_set h.bel h.ley _) h.ley _, h.lt⟩
theorem ThreeAt.drewN {w0 w : World} {B Y : Nat} {a o u : T3} (h : ThreeAt w0 w B Y a o u) (n : Nat) : ThreeAt w0 (w.drewN n) B Y a o u := ⟨h.ov.drewN n, h.un.drewN n, h.pl.drewN n, below_drewN' h.bel n, h.lt⟩
theorem two_res {w0 w : World} {B : Nat} {o u x y : T3} (ho : TriAt w B x) (hu : TriAt w (B + 1) y) (hb : Below B w0 w) {w' : World} (e : w' = (((((((w.setCell ⟨B, 0, none⟩ (.int .i64 (o.1 : Nat))).setCell ⟨B, 1, none⟩ (.int .i64 (o.2.1 : Nat))).setCell ⟨B, 2, none⟩ (.int .i64 (o.2.2 : Nat))).setCell ⟨B + 1, 0, none⟩ (.int .i64 (u.1 : Nat))).setCell ⟨B + 1, 1, none⟩ (.int .i64 (u.2.1 : Nat))).setCell ⟨B + 1, 2, none⟩ (.int .i64 (u.2.2 : Nat))))) :
    (∀ i, w'.cell? ⟨B, i, none⟩ = (tcs o)[i]?) ∧ (∀ i, w'.cell? ⟨B + 1, i, none⟩ = (tcs u)[i]?) ∧ Below B w0 w' := by
  subst e
  exact ⟨((ho.set3 o).far3 (by omega) _ _ _).box.2, ((hu.far3 (by omega) _ _ _).set3 u).box.2, below_set3 (below_set3 hb (Nat.le_refl _) _ _ _) (Nat.le_succ _) _ _ _⟩
theorem drew_res {w0 w : World} {B : Nat} {o u : T3} (h : (∀ i, w.cell? ⟨B, i, none⟩ = (tcs o)[i]?) ∧ (∀ i, w.cell? ⟨B + 1, i, none⟩ = (tcs u)[i]?) ∧ Below B w0 w) : (∀ i, w.drew.cell? ⟨B, i, none⟩ = (tcs o)[i]?) ∧ (∀ i, w.drew.cell? ⟨B + 1, i, none⟩ = (tcs u)[i]?) ∧ Below B w0 w.drew := ⟨h.1, h.2.1, below_drewN' h.2.2 1⟩
theorem two_resD {w0 w : World} {B : Nat} {o u x y : T3} (ho : TriAt w B x) (hu : TriAt w (B + 1) y) (hb : Below B w0 w) {w' : World} (e : w' = ((((((((w.setCell ⟨B, 0, none⟩ (.int .i64 (o.1 : Nat))).setCell ⟨B, 1, none⟩ (.int .i64 (o.2.1 : Nat))).setCell ⟨B, 2, none⟩ (.int .i64 (o.2.2 : Nat))).setCell ⟨B + 1, 0, none⟩ (.int .i64 (u.1 : Nat))).setCell ⟨B + 1, 1, none⟩ (.int .i64 (u.2.1 : Nat))).setCell ⟨B + 1, 2, none⟩ (.int .i64 (u.2.2 : Nat))))).drew) :
    (∀ i, w'.cell? ⟨B, i, none⟩ = (tcs o)[i]?) ∧ (∀ i, w'.cell? ⟨B + 1, i, none⟩ = (tcs u)[i]?) ∧ Below B w0 w' := by
  subst e
  exact drew_res (two_res ho hu hb rfl)
theorem zero_res {w0 w : World} {B : Nat} {x y : T3} (ho : TriAt w B x) (hu : TriAt w (B + 1) y) (hb : Below B w0 w) {w' : World} (e : w' = ((((((w.setCell ⟨B, 0, none⟩ (.int .i64 0)).setCell ⟨B, 1, none⟩ (.int .i64 0)).setCell ⟨B, 2, none⟩ (.int .i64 0)).setCell ⟨B + 1, 0, none⟩ (.int .i64 0)).setCell ⟨B + 1, 1, none⟩ (.int .i64 0)).setCell ⟨B + 1, 2, none⟩ (.int .i64 0))) :
    (∀ i, w'.cell? ⟨B, i, none⟩ = z3[i]?) ∧ (∀ i, w'.cell? ⟨B + 1, i, none⟩ = z3[i]?) ∧ Below B w0 w' := two_res (o := (0, 0, 0)) (u := (0, 0, 0)) ho hu hb e
theorem zero_resD {w0 w : World} {B : Nat} {x y : T3} (ho : TriAt w B x) (hu : TriAt w (B + 1) y) (hb : Below B w0 w) {w' : World} (e : w' = (((((((w.setCell ⟨B, 0, none⟩ (.int .i64 0)).setCell ⟨B, 1, none⟩ (.int .i64 0)).setCell ⟨B, 2, none⟩ (.int .i64 0)).setCell ⟨B + 1, 0, none⟩ (.int .i64 0)).setCell ⟨B + 1, 1, none⟩ (.int .i64 0)).setCell ⟨B + 1, 2, none⟩ (.int .i64 0))).drew) :
    (∀ i, w'.cell? ⟨B, i, none⟩ = z3[i]?) ∧ (∀ i, w'.cell? ⟨B + 1, i, none⟩ = z3[i]?) ∧ Below B w0 w' := two_resD (o := (0, 0, 0)) (u := (0, 0, 0)) ho hu hb e
set_option maxRecDepth 100000 in
set_option maxHeartbeats 4000000 in
theorem shadow_any (t : ByteArray) (w : World) (ht : t.size ≤ 1000000) : Calls Tryd.prog 53 #[.string t] w fun r w' => r = .returned (.tuple #[tval (overR t), tval (underR t), .int .i64 (ansE t)]) ∧ Below w.heap.size w w' := by
  have hl := li_size t
  obtain ⟨hr, ho, hb, hlt0⟩ := zz_new w
  go_enter Tryd.func53, Tryd.ntmps53
  go_wp2_with fail
  generalize (w.alloc (.cells z3 47)).alloc (.cells z3 47) = w1 at hr ho hb hlt0 ⊢
  with_reducible refine (valid_any t _ ht).mono ?_
  rintro _ w2 ⟨rfl, hb2⟩
  have HR := Lib.hid (hr.below hb2)
  have HO := Lib.hid (ho.below hb2)
  have HB := Lib.hid (hb.trans (hb2.mono hb.size))
  have HLT := Lib.hid (Nat.lt_of_lt_of_le hlt0 hb2.size)
  clear hr ho hb hlt0 hb2
  rcases Bool.eq_false_or_eq_true (okW t) with h | h'
  · have hW := okW_iff.1 h
    have HC := Lib.hid (overR_ok h)
    have HU := Lib.hid (underR_ok h)
    have HE := Lib.hid (ansE_ok h)
    rw [h]
    clear h
    go_wp2_with fail
    have hs : ThreeAt w (w2.alloc (.cells n3 47)) w.heap.size w2.heap.size (0, 1, 2) (0, 0, 0) (0, 0, 0) := ⟨HR.out.below (belowA _ _), HO.out.below (belowA _ _), n3_new w2, below_trans' HB.out (belowA _ _), HLT.out⟩
    generalize w2.alloc (.cells n3 47) = w3 at hs ⊢
    generalize w2.heap.size = Y at hs ⊢
    go_loopw [18] (fun i wr => ∃ k : Nat, k ≤ t.size ∧ i = .int .i64 k ∧ ThreeAt w wr w.heap.size Y (runL ((liB t).take k)).at3 (runL ((liB t).take k)).over (runL ((liB t).take k)).under) (fun i _ => t.size - (intOf i).toNat)
    case atStart => exact ⟨0, by omega, rfl, hs⟩
    case round =>
      clear hs
      obtain ⟨k, hk, rfl, hs⟩ := hrel
      by_cases hlt : k < t.size
      · have hll : k < (liB t).length := by omega
        have hget := get_li hlt hll
        have hLk : isL t[k] := by rw [← hget]; exact hW.2 _ (List.getElem_mem hll)
        have h60 := hW.1
        have HT := Lib.hid (runL_take hll)
        rw [hget] at HT
        clear hget
        have K := place_any t[k] hLk wr
        generalize hcc : t[k] = d at HT hLk K
        obtain ⟨b1, b2, b3⟩ := at3_lt ((liB t).take k)
        obtain ⟨s1, s2⟩ := runL_sums ((liB t).take k)
        rw [List.length_take] at s1 s2
        obtain ⟨M, hM⟩ : ∃ M, runL ((liB t).take k) = M := ⟨_, rfl⟩
        rw [hM] at HT hs b1 b2 b3 s1 s2
        clear hM
        obtain ⟨⟨p, q, r⟩, ov, un⟩ := M
        dsimp only at b1 b2 b3 s1 s2
        have HS := Lib.hid hs
        clear hs
        have x0 := HS.out.pl.box.2
        have z0 := HS.out.pl.fz
        have z1 := HS.out.ov.fz
        have z2 := HS.out.un.fz
        have n1 := HS.out.lt
        have n2 : ¬ w.heap.size = Y := by omega
        have n3 : ¬ Y = w.heap.size := by omega
        have n4 : ¬ w.heap.size + 1 = Y := by omega
        have n5 : ¬ Y = w.heap.size + 1 := by omega
        clear n1
        go_wp2_with fail
        with_reducible refine K.mono ?_
        rintro _ w4 ⟨rfl, rfl⟩
        clear K
        rcases hLk with rfl | rfl | rfl | rfl
        · have y1 := HS.out.ov.at b1
          have y2 := HS.out.un.at b2
          have g1 := get3_le ov p
          have g2 := get3_le un q
          have HT2 : Hid (runL ((liB t).take (k + 1)) = ⟨(q, p, r), inc ov p, inc un q⟩) := Lib.hid HT.out
          obtain ⟨G1, hG1⟩ : ∃ G, get3 ov p = G := ⟨_, rfl⟩
          obtain ⟨G2, hG2⟩ : ∃ G, get3 un q = G := ⟨_, rfl⟩
          rw [hG1] at y1 g1
          rw [hG2] at y2 g2
          have HG1 := Lib.hid hG1
          have HG2 := Lib.hid hG2
          clear hG1 hG2
          have g3 : G1 ≤ 60 := by omega
          have g4 : G2 ≤ 60 := by omega
          clear g1 g2 s1 s2
          rw [if_pos (by decide)]
          go_wp2_with fail
          go_quiet (fail)
          have hn := (((HS.out.drewN nq).incO b1).incU b2).setAt0
          rw [HG1.out, HG2.out] at hn
          have HN := Lib.hid hn
          clear hn
          go_wp2_with fail
          go_roundw
          case rel => exact ⟨k + 1, by omega, by go_num, by rw [HT2.out]; exact HN.out⟩
          case measure => simp [intOf]; omega
        · have y1 := HS.out.ov.at b2
          have y2 := HS.out.un.at b1
          have g1 := get3_le ov q
          have g2 := get3_le un p
          have HT2 : Hid (runL ((liB t).take (k + 1)) = ⟨(q, p, r), inc ov q, inc un p⟩) := Lib.hid HT.out
          obtain ⟨G1, hG1⟩ : ∃ G, get3 ov q = G := ⟨_, rfl⟩
          obtain ⟨G2, hG2⟩ : ∃ G, get3 un p = G := ⟨_, rfl⟩
          rw [hG1] at y1 g1
          rw [hG2] at y2 g2
          have HG1 := Lib.hid hG1
          have HG2 := Lib.hid hG2
          clear hG1 hG2
          have g3 : G1 ≤ 60 := by omega
          have g4 : G2 ≤ 60 := by omega
          clear g1 g2 s1 s2
          rw [if_pos (by decide)]
          go_wp2_with fail
          go_quiet (fail)
          have hn := (((HS.out.drewN nq).incU b1).incO b2).setAt0
          rw [HG1.out, HG2.out] at hn
          have HN := Lib.hid hn
          clear hn
          go_wp2_with fail
          go_roundw
          case rel => exact ⟨k + 1, by omega, by go_num, by rw [HT2.out]; exact HN.out⟩
          case measure => simp [intOf]; omega
        · have y1 := HS.out.ov.at b2
          have y2 := HS.out.un.at b3
          have g1 := get3_le ov q
          have g2 := get3_le un r
          have HT2 : Hid (runL ((liB t).take (k + 1)) = ⟨(p, r, q), inc ov q, inc un r⟩) := Lib.hid HT.out
          obtain ⟨G1, hG1⟩ : ∃ G, get3 ov q = G := ⟨_, rfl⟩
          obtain ⟨G2, hG2⟩ : ∃ G, get3 un r = G := ⟨_, rfl⟩
          rw [hG1] at y1 g1
          rw [hG2] at y2 g2
          have HG1 := Lib.hid hG1
          have HG2 := Lib.hid hG2
          clear hG1 hG2
          have g3 : G1 ≤ 60 := by omega
          have g4 : G2 ≤ 60 := by omega
          clear g1 g2 s1 s2
          rw [if_neg (by decide)]
          go_wp2_with fail
          go_quiet (fail)
          have hn := (((HS.out.drewN nq).incO b2).incU b3).setAt1
          rw [HG1.out, HG2.out] at hn
          have HN := Lib.hid hn
          clear hn
          go_wp2_with fail
          go_roundw
          case rel => exact ⟨k + 1, by omega, by go_num, by rw [HT2.out]; exact HN.out⟩
          case measure => simp [intOf]; omega
        · have y1 := HS.out.ov.at b3
          have y2 := HS.out.un.at b2
          have g1 := get3_le ov r
          have g2 := get3_le un q
          have HT2 : Hid (runL ((liB t).take (k + 1)) = ⟨(p, r, q), inc ov r, inc un q⟩) := Lib.hid HT.out
          obtain ⟨G1, hG1⟩ : ∃ G, get3 ov r = G := ⟨_, rfl⟩
          obtain ⟨G2, hG2⟩ : ∃ G, get3 un q = G := ⟨_, rfl⟩
          rw [hG1] at y1 g1
          rw [hG2] at y2 g2
          have HG1 := Lib.hid hG1
          have HG2 := Lib.hid hG2
          clear hG1 hG2
          have g3 : G1 ≤ 60 := by omega
          have g4 : G2 ≤ 60 := by omega
          clear g1 g2 s1 s2
          rw [if_neg (by decide)]
          go_wp2_with fail
          go_quiet (fail)
          have hn := (((HS.out.drewN nq).incU b2).incO b3).setAt1
          rw [HG1.out, HG2.out] at hn
          have HN := Lib.hid hn
          clear hn
          go_wp2_with fail
          go_roundw
          case rel => exact ⟨k + 1, by omega, by go_num, by rw [HT2.out]; exact HN.out⟩
          case measure => simp [intOf]; omega
      · obtain rfl : k = t.size := by omega
        have HL := Lib.hid (show (liB t).take t.size = liB t by rw [← hl]; exact List.take_length)
        rw [HL.out] at hs
        obtain ⟨M, hM⟩ : ∃ M, runL (liB t) = M := ⟨_, rfl⟩
        rw [hM] at hs HC HU
        clear hM
        obtain ⟨⟨p, q, r⟩, ⟨o1, o2, o3⟩, ⟨u1, u2, u3⟩⟩ := M
        have HS := Lib.hid hs
        have y0 := hs.ov.box.2
        have y1 := hs.un.box.2
        have f0 := hs.ov.fz
        have f1 := hs.un.fz
        clear hs
        go_wp2_with fail
        go_region
        all_goals
          go_wp2_with fail
          obtain ⟨c0, c1, cb⟩ := two_resD (o := (o1, o2, o3)) (u := (u1, u2, u3)) HS.out.ov HS.out.un HS.out.bel rfl
          refine bodyPost_ret (v := .tuple #[tval (o1, o2, o3), tval (u1, u2, u3), .int .i64 0]) (by simp [results, Tryd.results53, go_sem, c0, c1]) rfl ⟨by rw [HC.out, HU.out, HE.out], cb⟩
  · have HC := Lib.hid (overR_no h')
    have HU := Lib.hid (underR_no h')
    have HE := Lib.hid (ansE_no h')
    rw [h']
    clear h'
    have y0 : ∀ i, w2.cell? ⟨w.heap.size, i, none⟩ = z3[i]? := HR.out.box.2
    have y1 : ∀ i, w2.cell? ⟨w.heap.size + 1, i, none⟩ = z3[i]? := HO.out.box.2
    have f0 := HR.out.fz
    have f1 := HO.out.fz
    go_wp2_with fail
    go_region
    all_goals
      go_wp2_with fail
      obtain ⟨c2, c3, cb⟩ := zero_resD HR.out HO.out HB.out rfl
      refine bodyPost_ret (v := .tuple #[tval (0, 0, 0), tval (0, 0, 0), .int .i64 1]) (by simp [results, Tryd.results53, go_sem, c2, c3]) rfl ⟨by rw [HC.out, HU.out, HE.out], cb⟩
set_option maxRecDepth 100000 in
set_option maxHeartbeats 4000000 in
theorem refShadow_any (t : ByteArray) (w : World) (ht : t.size ≤ 1000000) : Calls Tryd.prog 54 #[.string t] w fun r w' => r = .returned (.tuple #[tval (overR t), tval (underR t), .int .i64 (ansE t)]) ∧ Below w.heap.size w w' := by
  obtain ⟨hr, ho, hb, hlt0⟩ := zz_new w
  go_enter Tryd.func54, Tryd.ntmps54
  go_wp2_with fail
  generalize (w.alloc (.cells z3 47)).alloc (.cells z3 47) = w1 at hr ho hb hlt0 ⊢
  with_reducible refine (refValid_any t _ ht).mono ?_
  rintro _ w2 ⟨rfl, rfl⟩
  have HR := Lib.hid hr
  have HO := Lib.hid ho
  have HB := Lib.hid hb
  have HLT := Lib.hid hlt0
  clear hr ho hb hlt0
  rcases Bool.eq_false_or_eq_true (okW t) with h | h'
  · have hW := okW_iff.1 h
    have HC := Lib.hid (overR_ok h)
    have HU := Lib.hid (underR_ok h)
    have HE := Lib.hid (ansE_ok h)
    rw [h]
    clear h
    go_wp2_with fail
    with_reducible refine (run_any t _ hW.1 hW.2).mono ?_
    rintro _ w4 ⟨rfl, hb4⟩
    have HR4 := Lib.hid (HR.out.below hb4)
    have HO4 := Lib.hid (HO.out.below hb4)
    have HB4 := Lib.hid (HB.out.trans (hb4.mono HB.out.size))
    have HLT4 := Lib.hid (Nat.lt_of_lt_of_le HLT.out hb4.size)
    clear hb4
    obtain ⟨M, hM⟩ : ∃ M, runL (liB t) = M := ⟨_, rfl⟩
    rw [hM] at HC HU ⊢
    clear hM
    obtain ⟨⟨p, q, r⟩, ⟨o1, o2, o3⟩, ⟨u1, u2, u3⟩⟩ := M
    dsimp only
    have HB5 := Lib.hid (below_trans' HB4.out (below_trans' (belowA w4 (.cells (tcs (p, q, r)) 47)) (belowAA (w4.alloc (.cells (tcs (p, q, r)) 47)) (.cells (tcs (o1, o2, o3)) 47) (.cells (tcs (u1, u2, u3)) 47))))
    have HR5 := Lib.hid ((HR4.out.below (belowA w4 (.cells (tcs (p, q, r)) 47))).below (belowAA _ (.cells (tcs (o1, o2, o3)) 47) (.cells (tcs (u1, u2, u3)) 47)))
    have HO5 := Lib.hid ((HO4.out.below (belowA w4 (.cells (tcs (p, q, r)) 47))).below (belowAA _ (.cells (tcs (o1, o2, o3)) 47) (.cells (tcs (u1, u2, u3)) 47)))
    have s1 : (w4.alloc (.cells (tcs (p, q, r)) 47)).heap.size = w4.heap.size + 1 := by simp
    have s2 : ((w4.alloc (.cells (tcs (p, q, r)) 47)).alloc (.cells (tcs (o1, o2, o3)) 47)).heap.size = w4.heap.size + 1 + 1 := by simp
    have x0 := ((TriAt.new (w4.alloc (.cells (tcs (p, q, r)) 47)) (o1, o2, o3)).below (belowA _ (.cells (tcs (u1, u2, u3)) 47))).box.2
    have x1 := (TriAt.new ((w4.alloc (.cells (tcs (p, q, r)) 47)).alloc (.cells (tcs (o1, o2, o3)) 47)) (u1, u2, u3)).box.2
    rw [s1] at x0
    rw [s2] at x1
    clear s1 s2
    have n1 := HLT4.out
    have n2 : ¬ w4.heap.size + 1 = w.heap.size := by omega
    have n3 : ¬ w4.heap.size + 1 = w.heap.size + 1 := by omega
    have n4 : ¬ w4.heap.size + 1 + 1 = w.heap.size := by omega
    have n5 : ¬ w4.heap.size + 1 + 1 = w.heap.size + 1 := by omega
    have n6 : ¬ w.heap.size = w4.heap.size + 1 + 1 := by omega
    have n7 : ¬ w.heap.size + 1 = w4.heap.size + 1 + 1 := by omega
    clear n1
    go_wp2_with fail
    generalize ((w4.alloc (.cells (tcs (p, q, r)) 47)).alloc (.cells (tcs (o1, o2, o3)) 47)).alloc (.cells (tcs (u1, u2, u3)) 47) = w5 at HB5 HR5 HO5 x0 x1 ⊢
    have y0 := HR5.out.box.2
    have y1 := HO5.out.box.2
    have f0 := HR5.out.fz
    have f1 := HO5.out.fz
    go_region
    all_goals
      go_wp2_with fail
      obtain ⟨c0, c1, cb⟩ := two_resD (o := (o1, o2, o3)) (u := (u1, u2, u3)) HR5.out HO5.out HB5.out rfl
      refine bodyPost_ret (v := .tuple #[tval (o1, o2, o3), tval (u1, u2, u3), .int .i64 0]) (by simp [results, Tryd.results54, go_sem, c0, c1]) rfl ⟨by rw [HC.out, HU.out, HE.out], cb⟩
  · have HC := Lib.hid (overR_no h')
    have HU := Lib.hid (underR_no h')
    have HE := Lib.hid (ansE_no h')
    rw [h']
    clear h'
    have y0 : ∀ i, w2.cell? ⟨w.heap.size, i, none⟩ = z3[i]? := HR.out.box.2
    have y1 : ∀ i, w2.cell? ⟨w.heap.size + 1, i, none⟩ = z3[i]? := HO.out.box.2
    have f0 := HR.out.fz
    have f1 := HO.out.fz
    go_wp2_with fail
    obtain ⟨c2, c3, cb⟩ := zero_res HR.out HO.out HB.out rfl
    refine bodyPost_ret (v := .tuple #[tval (0, 0, 0), tval (0, 0, 0), .int .i64 1]) (by simp [results, Tryd.results54, go_sem, c2, c3]) rfl ⟨by rw [HC.out, HU.out, HE.out], cb⟩
end Go.Proofs.YtgkgloafjhiakaaDoor
