/- Walks: the strands followed, of the reference. -/
import Derived.Test.YtgkgloafjhiakaaDoorN1
namespace Go.Proofs.YtgkgloafjhiakaaDoor
open Go.RowKit Go.Sort

theorem get3_le (a : T3) (i : Nat) : get3 a i ≤ sum3 a := by
  unfold get3 sum3
  split
  · omega
  · split <;> omega
/-- The six blocks of the walk along the strands. -/
structure SixAt (w0 w : World) (B : Nat) (a o u : T3) : Prop where
  r0 : TriAt w B (0, 0, 0)
  r1 : TriAt w (B + 1) (0, 0, 0)
  r2 : TriAt w (B + 1 + 1) (0, 0, 0)
  pl : TriAt w (B + 1 + 1 + 1) a
  ov : TriAt w (B + 1 + 1 + 1 + 1) o
  un : TriAt w (B + 1 + 1 + 1 + 1 + 1) u
  bel : Below B w0 w
theorem six_new (w : World) : SixAt w ((((((w.alloc (.cells z3 47)).alloc (.cells z3 47)).alloc (.cells z3 47)).alloc (.cells n3 47)).alloc (.cells z3 47)).alloc (.cells z3 47)) w.heap.size (0, 1, 2) (0, 0, 0) (0, 0, 0) := by
  have s1 : (w.alloc (.cells z3 47)).heap.size = w.heap.size + 1 := by simp
  generalize hw1 : w.alloc (.cells z3 47) = w1 at s1 ⊢
  have h0 : TriAt w1 w.heap.size (0, 0, 0) := by rw [← hw1]; exact z3_new w
  have k1 : Below w.heap.size w w1 := by rw [← hw1]; exact belowA w _
  have s2 : (w1.alloc (.cells z3 47)).heap.size = w1.heap.size + 1 := by simp
  have h1 := z3_new w1
  have k2 := belowA w1 (.cells z3 47)
  generalize w1.alloc (.cells z3 47) = w2 at s2 h1 k2 ⊢
  have s3 : (w2.alloc (.cells z3 47)).heap.size = w2.heap.size + 1 := by simp
  have h2 := z3_new w2
  have k3 := belowA w2 (.cells z3 47)
  generalize w2.alloc (.cells z3 47) = w3 at s3 h2 k3 ⊢
  have s4 : (w3.alloc (.cells n3 47)).heap.size = w3.heap.size + 1 := by simp
  have h3 := n3_new w3
  have k4 := belowA w3 (.cells n3 47)
  generalize w3.alloc (.cells n3 47) = w4 at s4 h3 k4 ⊢
  have s5 : (w4.alloc (.cells z3 47)).heap.size = w4.heap.size + 1 := by simp
  have h4 := z3_new w4
  have k5 := belowA w4 (.cells z3 47)
  generalize w4.alloc (.cells z3 47) = w5 at s5 h4 k5 ⊢
  have h5 := z3_new w5
  have k6 := belowA w5 (.cells z3 47)
  generalize w5.alloc (.cells z3 47) = w6 at h5 k6 ⊢
  refine ⟨((((h0.below k2).below k3).below k4).below k5).below k6, ?_, ?_, ?_, ?_, ?_, ?_⟩
  · rw [← s1]; exact (((h1.below k3).below k4).below k5).below k6
  · rw [← s1, ← s2]; exact ((h2.below k4).below k5).below k6
  · rw [← s1, ← s2, ← s3]; exact (h3.below k5).below k6
  · rw [← s1, ← s2, ← s3, ← s4]; exact h4.below k6
  · rw [← s1, ← s2, ← s3, ← s4, ← s5]; exact h5
  · exact below_trans' (below_trans' (below_trans' (below_trans' (below_trans' k1 k2) k3) k4) k5) k6
theorem lev3 (B : Nat) : B ≤ B + 1 + 1 + 1 := by omega
theorem lev4 (B : Nat) : B ≤ B + 1 + 1 + 1 + 1 := by omega
theorem lev5 (B : Nat) : B ≤ B + 1 + 1 + 1 + 1 + 1 := by omega
theorem SixAt.incO {w0 w : World} {B : Nat} {a o u : T3} (h : SixAt w0 w B a o u) {i : Nat} (hi : i < 3) : SixAt w0 (w.setCell ⟨B + 1 + 1 + 1 + 1, i, none⟩ (.int .i64 ((get3 o i : Int) + 1))) B a (inc o i) u :=
  ⟨h.r0.far (by omega) _, h.r1.far (by omega) _, h.r2.far (by omega) _, h.pl.far (by omega) _, by rw [← st3_inc o hi]; exact h.ov.put hi (get3 o i + 1), h.un.far (by omega) _, below_set h.bel (lev4 B) _⟩
theorem SixAt.incU {w0 w : World} {B : Nat} {a o u : T3} (h : SixAt w0 w B a o u) {i : Nat} (hi : i < 3) : SixAt w0 (w.setCell ⟨B + 1 + 1 + 1 + 1 + 1, i, none⟩ (.int .i64 ((get3 u i : Int) + 1))) B a o (inc u i) :=
  ⟨h.r0.far (by omega) _, h.r1.far (by omega) _, h.r2.far (by omega) _, h.pl.far (by omega) _, h.ov.far (by omega) _, by rw [← st3_inc u hi]; exact h.un.put hi (get3 u i + 1), below_set h.bel (lev5 B) _⟩
theorem SixAt.setAt0 {w0 w : World} {B : Nat} {p q r : Nat} {o u : T3} (h : SixAt w0 w B (p, q, r) o u) : SixAt w0 ((w.setCell ⟨B + 1 + 1 + 1, 0, none⟩ (.int .i64 (q : Nat))).setCell ⟨B + 1 + 1 + 1, 1, none⟩ (.int .i64 (p : Nat))) B (q, p, r) o u :=
  ⟨(h.r0.far (by omega) _).far (by omega) _, (h.r1.far (by omega) _).far (by omega) _, (h.r2.far (by omega) _).far (by omega) _, (h.pl.s0 q).s1 p, (h.ov.far (by omega) _).far (by omega) _, (h.un.far (by omega) _).far (by omega) _, below_set (below_set h.bel (lev3 B) _) (lev3 B) _⟩
theorem SixAt.setAt1 {w0 w : World} {B : Nat} {p q r : Nat} {o u : T3} (h : SixAt w0 w B (p, q, r) o u) : SixAt w0 ((w.setCell ⟨B + 1 + 1 + 1, 1, none⟩ (.int .i64 (r : Nat))).setCell ⟨B + 1 + 1 + 1, 2, none⟩ (.int .i64 (q : Nat))) B (p, r, q) o u :=
  ⟨(h.r0.far (by omega) _).far (by omega) _, (h.r1.far (by omega) _).far (by omega) _, (h.r2.far (by omega) _).far (by omega) _, (h.pl.s1 r).s2 q, (h.ov.far (by omega) _).far (by omega) _, (h.un.far (by omega) _).far (by omega) _, below_set (below_set h.bel (lev3 B) _) (lev3 B) _⟩
theorem TriAt.far3 {w : World} {b : Nat} {a : T3} (h : TriAt w b a) {b' : Nat} (hne : b ≠ b') (v0 v1 v2 : Value) : TriAt (((w.setCell ⟨b', 0, none⟩ v0).setCell ⟨b', 1, none⟩ v1).setCell ⟨b', 2, none⟩ v2) b a := ((h.far hne v0).far hne v1).far hne v2
theorem SixAt.res {w0 w : World} {B : Nat} {a o u : T3} (h : SixAt w0 w B a o u) {w' : World} (e : w' = ((((((((((w.setCell ⟨B, 0, none⟩ (.int .i64 (a.1 : Nat))).setCell ⟨B, 1, none⟩ (.int .i64 (a.2.1 : Nat))).setCell ⟨B, 2, none⟩ (.int .i64 (a.2.2 : Nat))).setCell ⟨B + 1, 0, none⟩ (.int .i64 (o.1 : Nat))).setCell ⟨B + 1, 1, none⟩ (.int .i64 (o.2.1 : Nat))).setCell ⟨B + 1, 2, none⟩ (.int .i64 (o.2.2 : Nat))).setCell ⟨B + 1 + 1, 0, none⟩ (.int .i64 (u.1 : Nat))).setCell ⟨B + 1 + 1, 1, none⟩ (.int .i64 (u.2.1 : Nat))).setCell ⟨B + 1 + 1, 2, none⟩ (.int .i64 (u.2.2 : Nat)))).drew) :
    (∀ i, w'.cell? ⟨B, i, none⟩ = (tcs a)[i]?) ∧ (∀ i, w'.cell? ⟨B + 1, i, none⟩ = (tcs o)[i]?) ∧ (∀ i, w'.cell? ⟨B + 1 + 1, i, none⟩ = (tcs u)[i]?) ∧ Below B w0 w' := by
  subst e
  refine ⟨((((h.r0.set3 a).far3 (by omega) _ _ _).far3 (by omega) _ _ _).drewN 1).box.2, ((((h.r1.far3 (by omega) _ _ _).set3 o).far3 (by omega) _ _ _).drewN 1).box.2, ((((h.r2.far3 (by omega) _ _ _).far3 (by omega) _ _ _).set3 u).drewN 1).box.2, below_drewN' (below_set3 (below_set3 (below_set3 h.bel (Nat.le_refl _) _ _ _) (Nat.le_succ _) _ _ _) (Nat.le_add_right B 2) _ _ _) 1⟩
theorem SixAt.drewN {w0 w : World} {B : Nat} {a o u : T3} (h : SixAt w0 w B a o u) (n : Nat) : SixAt w0 (w.drewN n) B a o u := ⟨h.r0.drewN n, h.r1.drewN n, h.r2.drewN n, h.pl.drewN n, h.ov.drewN n, h.un.drewN n, below_drewN' h.bel n⟩
set_option maxRecDepth 100000 in
set_option maxHeartbeats 4000000 in
theorem run_any (t : ByteArray) (w : World) (ht : t.size ≤ 60) (hW : wordL (liB t)) : Calls Tryd.prog 78 #[.string t] w fun r w' => r = .returned (.tuple #[tval (runL (liB t)).at3, tval (runL (liB t)).over, tval (runL (liB t)).under]) ∧ Below w.heap.size w w' := by
  have hl := li_size t
  have hs := six_new w
  go_enter Tryd.func78, Tryd.ntmps78
  go_wp2_with fail
  generalize (((((w.alloc (.cells z3 47)).alloc (.cells z3 47)).alloc (.cells z3 47)).alloc (.cells n3 47)).alloc (.cells z3 47)).alloc (.cells z3 47) = w6 at hs ⊢
  go_loopw [8] (fun i wr => ∃ k : Nat, k ≤ t.size ∧ i = .int .i64 k ∧ SixAt w wr w.heap.size (runL ((liB t).take k)).at3 (runL ((liB t).take k)).over (runL ((liB t).take k)).under) (fun i _ => t.size - (intOf i).toNat)
  case atStart => exact ⟨0, by omega, rfl, hs⟩
  case round =>
    clear hs
    obtain ⟨k, hk, rfl, hs⟩ := hrel
    by_cases hlt : k < t.size
    · have hll : k < (liB t).length := by omega
      have hget := get_li hlt hll
      have hLk : isL t[k] := by rw [← hget]; exact hW _ (List.getElem_mem hll)
      have HT := Lib.hid (runL_take hll)
      rw [hget] at HT
      clear hget
      generalize hcc : t[k] = d at HT hLk
      obtain ⟨b1, b2, b3⟩ := at3_lt ((liB t).take k)
      obtain ⟨s1, s2⟩ := runL_sums ((liB t).take k)
      rw [List.length_take] at s1 s2
      obtain ⟨M, hM⟩ : ∃ M, runL ((liB t).take k) = M := ⟨_, rfl⟩
      rw [hM] at HT hs b1 b2 b3 s1 s2
      clear hM
      obtain ⟨⟨p, q, r⟩, ov, un⟩ := M
      dsimp only at b1 b2 b3 s1 s2
      have HS := Lib.hid hs
      clear hs
      have x0 := HS.out.pl.box.2
      have z0 := HS.out.pl.fz
      have z1 := HS.out.ov.fz
      have z2 := HS.out.un.fz
      generalize w.heap.size = B at HS x0 z0 z1 z2 ⊢
      rcases hLk with rfl | rfl | rfl | rfl
      · have y1 := HS.out.ov.at b1
        have y2 := HS.out.un.at b2
        have g1 := get3_le ov p
        have g2 := get3_le un q
        have HT2 : Hid (runL ((liB t).take (k + 1)) = ⟨(q, p, r), inc ov p, inc un q⟩) := Lib.hid HT.out
        obtain ⟨G1, hG1⟩ : ∃ G, get3 ov p = G := ⟨_, rfl⟩
        obtain ⟨G2, hG2⟩ : ∃ G, get3 un q = G := ⟨_, rfl⟩
        rw [hG1] at y1 g1
        rw [hG2] at y2 g2
        have HG1 := Lib.hid hG1
        have HG2 := Lib.hid hG2
        clear hG1 hG2
        have g3 : G1 ≤ 60 := by omega
        have g4 : G2 ≤ 60 := by omega
        clear g1 g2 s1 s2
        go_wp2_with fail
        go_quiet (fail)
        have hn := ((((HS.out.drewN nq).incO b1).incU b2).setAt0).drewN 1
        rw [HG1.out, HG2.out] at hn
        have HN := Lib.hid hn
        clear hn
        go_wp2_with fail
        go_region
        all_goals
          go_wp2_with fail
          exact ⟨⟨k + 1, by omega, by go_num, by rw [HT2.out]; exact HN.out⟩, by simp [intOf]; omega⟩
      · have y1 := HS.out.ov.at b2
        have y2 := HS.out.un.at b1
        have g1 := get3_le ov q
        have g2 := get3_le un p
        have HT2 : Hid (runL ((liB t).take (k + 1)) = ⟨(q, p, r), inc ov q, inc un p⟩) := Lib.hid HT.out
        obtain ⟨G1, hG1⟩ : ∃ G, get3 ov q = G := ⟨_, rfl⟩
        obtain ⟨G2, hG2⟩ : ∃ G, get3 un p = G := ⟨_, rfl⟩
        rw [hG1] at y1 g1
        rw [hG2] at y2 g2
        have HG1 := Lib.hid hG1
        have HG2 := Lib.hid hG2
        clear hG1 hG2
        have g3 : G1 ≤ 60 := by omega
        have g4 : G2 ≤ 60 := by omega
        clear g1 g2 s1 s2
        go_wp2_with fail
        go_quiet (fail)
        have hn := ((((HS.out.drewN nq).incO b2).incU b1).setAt0).drewN 1
        rw [HG1.out, HG2.out] at hn
        have HN := Lib.hid hn
        clear hn
        go_wp2_with fail
        go_region
        all_goals
          go_wp2_with fail
          exact ⟨⟨k + 1, by omega, by go_num, by rw [HT2.out]; exact HN.out⟩, by simp [intOf]; omega⟩
      · have y1 := HS.out.ov.at b2
        have y2 := HS.out.un.at b3
        have g1 := get3_le ov q
        have g2 := get3_le un r
        have HT2 : Hid (runL ((liB t).take (k + 1)) = ⟨(p, r, q), inc ov q, inc un r⟩) := Lib.hid HT.out
        obtain ⟨G1, hG1⟩ : ∃ G, get3 ov q = G := ⟨_, rfl⟩
        obtain ⟨G2, hG2⟩ : ∃ G, get3 un r = G := ⟨_, rfl⟩
        rw [hG1] at y1 g1
        rw [hG2] at y2 g2
        have HG1 := Lib.hid hG1
        have HG2 := Lib.hid hG2
        clear hG1 hG2
        have g3 : G1 ≤ 60 := by omega
        have g4 : G2 ≤ 60 := by omega
        clear g1 g2 s1 s2
        go_wp2_with fail
        go_quiet (fail)
        have hn := ((((HS.out.drewN nq).incO b2).incU b3).setAt1).drewN 1
        rw [HG1.out, HG2.out] at hn
        have HN := Lib.hid hn
        clear hn
        go_wp2_with fail
        go_region
        all_goals
          go_wp2_with fail
          exact ⟨⟨k + 1, by omega, by go_num, by rw [HT2.out]; exact HN.out⟩, by simp [intOf]; omega⟩
      · have y1 := HS.out.ov.at b3
        have y2 := HS.out.un.at b2
        have g1 := get3_le ov r
        have g2 := get3_le un q
        have HT2 : Hid (runL ((liB t).take (k + 1)) = ⟨(p, r, q), inc ov r, inc un q⟩) := Lib.hid HT.out
        obtain ⟨G1, hG1⟩ : ∃ G, get3 ov r = G := ⟨_, rfl⟩
        obtain ⟨G2, hG2⟩ : ∃ G, get3 un q = G := ⟨_, rfl⟩
        rw [hG1] at y1 g1
        rw [hG2] at y2 g2
        have HG1 := Lib.hid hG1
        have HG2 := Lib.hid hG2
        clear hG1 hG2
        have g3 : G1 ≤ 60 := by omega
        have g4 : G2 ≤ 60 := by omega
        clear g1 g2 s1 s2
        go_wp2_with fail
        go_quiet (fail)
        have hn := ((((HS.out.drewN nq).incO b3).incU b2).setAt1).drewN 1
        rw [HG1.out, HG2.out] at hn
        have HN := Lib.hid hn
        clear hn
        go_wp2_with fail
        go_region
        all_goals
          go_wp2_with fail
          exact ⟨⟨k + 1, by omega, by go_num, by rw [HT2.out]; exact HN.out⟩, by simp [intOf]; omega⟩
    · obtain rfl : k = t.size := by omega
      have HL := Lib.hid (show (liB t).take t.size = liB t by rw [← hl]; exact List.take_length)
      rw [HL.out] at hs
      obtain ⟨M, hM⟩ : ∃ M, runL (liB t) = M := ⟨_, rfl⟩
      rw [hM] at hs
      have HMM := Lib.hid hM
      clear hM
      obtain ⟨⟨p, q, r⟩, ⟨o1, o2, o3⟩, ⟨u1, u2, u3⟩⟩ := M
      have HS := Lib.hid hs
      have x0 := hs.pl.box.2
      have x1 := hs.ov.box.2
      have x2 := hs.un.box.2
      have y0 := hs.r0.box.2
      have y1 := hs.r1.box.2
      have y2 := hs.r2.box.2
      have f0 := hs.r0.fz
      have f1 := hs.r1.fz
      have f2 := hs.r2.fz
      clear hs
      go_wp2_with fail
      go_region
      all_goals
        go_wp2_with fail
        obtain ⟨c0, c1, c2, cb⟩ := HS.out.res rfl
        refine bodyPost_ret (v := .tuple #[tval (p, q, r), tval (o1, o2, o3), tval (u1, u2, u3)]) (by simp [results, Tryd.results78, go_sem, c0, c1, c2]) rfl ⟨by rw [HMM.out], cb⟩
end Go.Proofs.YtgkgloafjhiakaaDoor
