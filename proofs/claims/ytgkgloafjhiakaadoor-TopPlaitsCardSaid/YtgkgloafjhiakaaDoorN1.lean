/- Walks: where the strands end. -/
import Derived.Test.YtgkgloafjhiakaaDoorP8
import Derived.Test.YtgkgloafjhiakaaDoorEn
import Derived.Test.YtgkgloafjhiakaaDoorM4
namespace Go.Proofs.YtgkgloafjhiakaaDoor
open Go.RowKit Go.Sort

abbrev tcs (a : T3) : Array Value := #[.int .i64 (a.1 : Nat), .int .i64 (a.2.1 : Nat), .int .i64 (a.2.2 : Nat)]
abbrev tval (a : T3) : Value := .agg #[.int .i64 (a.1 : Nat), .int .i64 (a.2.1 : Nat), .int .i64 (a.2.2 : Nat)]
/-- Three numbers in memory. -/
structure TriAt (w : World) (b : Nat) (a : T3) : Prop where
  box : Box w b (tcs a)
  fz : ∀ i, w.frozen? ⟨b, i, none⟩ = false
theorem TriAt.new (w : World) (a : T3) : TriAt (w.alloc (.cells (tcs a) 47)) w.heap.size a := ⟨Box.new _ _ _, fz_new _ _ _⟩
abbrev z3 : Array Value := #[.int .i64 0, .int .i64 0, .int .i64 0]
abbrev n3 : Array Value := #[.int .i64 0, .int .i64 1, .int .i64 2]
theorem z3_new (w : World) : TriAt (w.alloc (.cells z3 47)) w.heap.size (0, 0, 0) := TriAt.new w (0, 0, 0)
theorem n3_new (w : World) : TriAt (w.alloc (.cells n3 47)) w.heap.size (0, 1, 2) := TriAt.new w (0, 1, 2)
theorem TriAt.below {w w' : World} {b : Nat} {a : T3} (h : TriAt w b a) (hb : Below w.heap.size w w') : TriAt w' b a := ⟨h.box.below hb, fz_below h.box.1 h.fz hb⟩
theorem TriAt.belowB {w w' : World} {b B : Nat} {a : T3} (h : TriAt w b a) (hb : Below B w w') (hB : b < B) : TriAt w' b a :=
  ⟨⟨Nat.lt_of_lt_of_le h.box.1 hb.size, fun i => (hb.cell (p := ⟨b, i, none⟩) hB).trans (h.box.2 i)⟩, fun i => (hb.frozen (p := ⟨b, i, none⟩) hB).trans (h.fz i)⟩
theorem TriAt.drewN {w : World} {b : Nat} {a : T3} (h : TriAt w b a) (n : Nat) : TriAt (w.drewN n) b a := ⟨h.box, h.fz⟩
theorem TriAt.far {w : World} {b : Nat} {a : T3} (h : TriAt w b a) {b' i : Nat} (hne : b ≠ b') (v : Value) : TriAt (w.setCell ⟨b', i, none⟩ v) b a :=
  ⟨h.box.far (p := ⟨b', i, none⟩) hne v, fun i => by rw [World.frozen?_setCell]; exact h.fz i⟩
theorem TriAt.s0 {w : World} {b : Nat} {a : T3} (h : TriAt w b a) (n : Nat) : TriAt (w.setCell ⟨b, 0, none⟩ (.int .i64 (n : Nat))) b (n, a.2) := ⟨h.box.set (i := 0) (by simp) _, fun i => by rw [World.frozen?_setCell]; exact h.fz i⟩
theorem TriAt.s1 {w : World} {b : Nat} {a : T3} (h : TriAt w b a) (n : Nat) : TriAt (w.setCell ⟨b, 1, none⟩ (.int .i64 (n : Nat))) b (a.1, n, a.2.2) := ⟨h.box.set (i := 1) (by simp) _, fun i => by rw [World.frozen?_setCell]; exact h.fz i⟩
theorem TriAt.s2 {w : World} {b : Nat} {a : T3} (h : TriAt w b a) (n : Nat) : TriAt (w.setCell ⟨b, 2, none⟩ (.int .i64 (n : Nat))) b (a.1, a.2.1, n) := ⟨h.box.set (i := 2) (by simp) _, fun i => by rw [World.frozen?_setCell]; exact h.fz i⟩
/-- A place's number, and another number at a place. -/
def get3 (a : T3) (i : Nat) : Nat := if i = 0 then a.1 else if i = 1 then a.2.1 else a.2.2
def st3 (a : T3) (i v : Nat) : T3 := if i = 0 then (v, a.2) else if i = 1 then (a.1, v, a.2.2) else (a.1, a.2.1, v)
theorem TriAt.put {w : World} {b : Nat} {a : T3} (h : TriAt w b a) {i : Nat} (hi : i < 3) (v : Nat) : TriAt (w.setCell ⟨b, i, none⟩ (.int .i64 (v : Nat))) b (st3 a i v) := by
  rcases (show i = 0 ∨ i = 1 ∨ i = 2 by omega) with rfl | rfl | rfl
  · exact h.s0 v
  · exact h.s1 v
  · exact h.s2 v
theorem TriAt.at {w : World} {b : Nat} {a : T3} (h : TriAt w b a) {i : Nat} (hi : i < 3) : w.cell? ⟨b, i, none⟩ = some (.int .i64 (get3 a i : Nat)) := by
  rcases (show i = 0 ∨ i = 1 ∨ i = 2 by omega) with rfl | rfl | rfl
  · exact h.box.2 0
  · exact h.box.2 1
  · exact h.box.2 2
theorem st3_inc (a : T3) {i : Nat} (hi : i < 3) : st3 a i (get3 a i + 1) = inc a i := by
  rcases (show i = 0 ∨ i = 1 ∨ i = 2 by omega) with rfl | rfl | rfl <;> rfl
theorem TriAt.set3 {w : World} {b : Nat} {a : T3} (h : TriAt w b a) (n : T3) : TriAt (((w.setCell ⟨b, 0, none⟩ (.int .i64 (n.1 : Nat))).setCell ⟨b, 1, none⟩ (.int .i64 (n.2.1 : Nat))).setCell ⟨b, 2, none⟩ (.int .i64 (n.2.2 : Nat))) b n := ((h.s0 n.1).s1 n.2.1).s2 n.2.2
theorem below_set3 {w0 w : World} {B b : Nat} (h : Below B w0 w) (hB : B ≤ b) (v0 v1 v2 : Value) : Below B w0 (((w.setCell ⟨b, 0, none⟩ v0).setCell ⟨b, 1, none⟩ v1).setCell ⟨b, 2, none⟩ v2) :=
  below_set (below_set (below_set h hB _) hB _) hB _
theorem place_any (c : UInt8) (hc : isL c) (w : World) : Calls Tryd.prog 77 #[.int .u8 (c.toNat : Int)] w fun r w' => r = .returned (.int .i64 (if c = 97 ∨ c = 65 then 0 else 1)) ∧ w' = w := by
  rcases hc with rfl | rfl | rfl | rfl
  all_goals
    go_enter Tryd.func77, Tryd.ntmps77
    go_wp2_with fail
    go_ret
    exact ⟨rfl, rfl⟩
theorem ix0 (p q r : Value) (w : World) : (Instr.index 47 (.agg #[p, q, r]) (.int .i64 0)).run Tryd.prog w = .ok p w := by kernel_rfl
theorem ix1 (p q r : Value) (w : World) : (Instr.index 47 (.agg #[p, q, r]) (.int .i64 1)).run Tryd.prog w = .ok q w := by kernel_rfl
theorem ix2 (p q r : Value) (w : World) : (Instr.index 47 (.agg #[p, q, r]) (.int .i64 2)).run Tryd.prog w = .ok r w := by kernel_rfl
def endsR (t : ByteArray) : T3 := if okW t then endsL (liB t) else (0, 0, 0)
theorem endsR_ok {t : ByteArray} (h : okW t = true) : endsR t = endsL (liB t) := by simp [endsR, h]
theorem endsR_no {t : ByteArray} (h : okW t = false) : endsR t = (0, 0, 0) := by simp [endsR, h]
theorem at3_lt (l : List UInt8) : (runL l).at3.1 < 3 ∧ (runL l).at3.2.1 < 3 ∧ (runL l).at3.2.2 < 3 := by
  have h := runL_perm l
  generalize (runL l).at3 = a at h
  cases h <;> decide
/-- Where the first strands stand. -/
def invJ (a : T3) (j : Nat) : T3 := if j = 0 then (0, 0, 0) else if j = 1 then st3 (0, 0, 0) a.1 0 else if j = 2 then st3 (st3 (0, 0, 0) a.1 0) a.2.1 1 else st3 (st3 (st3 (0, 0, 0) a.1 0) a.2.1 1) a.2.2 2
theorem invJ_all {a : T3} (h : Perm3 a) : invJ a 3 = invP a := by cases h <;> rfl
set_option maxRecDepth 100000 in
set_option maxHeartbeats 4000000 in
theorem ends_any (t : ByteArray) (w : World) (ht : t.size ≤ 1000000) : Calls Tryd.prog 46 #[.string t] w fun r w' => r = .returned (.tuple #[tval (endsR t), .int .i64 (ansE t)]) ∧ Below w.heap.size w w' := by
  have hl := li_size t
  have hm0 := z3_new w
  have hb0 := belowA w (.cells z3 47)
  have hlt0 : w.heap.size < (w.alloc (.cells z3 47)).heap.size := by simp
  go_enter Tryd.func46, Tryd.ntmps46
  go_wp2_with fail
  generalize w.alloc (.cells z3 47) = w1 at hm0 hb0 hlt0 ⊢
  with_reducible refine (valid_any t _ ht).mono ?_
  rintro _ w2 ⟨rfl, hb2⟩
  have HM := Lib.hid (hm0.below hb2)
  have HB := Lib.hid (hb0.trans (hb2.mono hb0.size))
  have HLT := Lib.hid (Nat.lt_of_lt_of_le hlt0 hb2.size)
  clear hm0 hb0 hlt0 hb2
  rcases Bool.eq_false_or_eq_true (okW t) with h | h'
  · have hW := okW_iff.1 h
    have HC := Lib.hid (endsR_ok h)
    have HE := Lib.hid (ansE_ok h)
    rw [h]
    clear h
    go_wp2_with fail
    have hmm := n3_new w2
    have hbb := belowA w2 (.cells n3 47)
    generalize w2.alloc (.cells n3 47) = w3 at hmm hbb ⊢
    go_loopw [17] (fun i wr => ∃ k : Nat, k ≤ t.size ∧ i = .int .i64 k ∧ Below w2.heap.size w2 wr ∧ TriAt wr w2.heap.size (runL ((liB t).take k)).at3) (fun i _ => t.size - (intOf i).toNat)
    case atStart => exact ⟨0, by omega, rfl, hbb, hmm⟩
    case round =>
      clear hmm hbb
      obtain ⟨k, hk, rfl, hb, hg⟩ := hrel
      have HB3 := Lib.hid hb
      have HG := Lib.hid hg
      clear hb hg
      by_cases hlt : k < t.size
      · have hll : k < (liB t).length := by omega
        have hget := get_li hlt hll
        have hLk : isL t[k] := by rw [← hget]; exact hW.2 _ (List.getElem_mem hll)
        have HT := Lib.hid (runL_take hll)
        rw [hget] at HT
        clear hget
        have K := place_any t[k] hLk wr
        generalize hcc : t[k] = d at HT hLk K
        obtain ⟨b1, b2, b3⟩ := at3_lt ((liB t).take k)
        obtain ⟨M, hM⟩ : ∃ M, runL ((liB t).take k) = M := ⟨_, rfl⟩
        rw [hM] at HT HG b1 b2 b3
        clear hM
        obtain ⟨⟨p, q, r⟩, ov, un⟩ := M
        dsimp only at b1 b2 b3 HG
        have x0 := HG.out.box.2
        have z0 := HG.out.fz
        go_wp2_with fail
        with_reducible refine K.mono ?_
        rintro _ w4 ⟨rfl, rfl⟩
        clear K
        rcases hLk with rfl | rfl | rfl | rfl
        · rw [if_pos (by decide)]
          have HS : Hid (TriAt (((w4.setCell ⟨w2.heap.size, 0, none⟩ (.int .i64 (q : Nat))).setCell ⟨w2.heap.size, 1, none⟩ (.int .i64 (p : Nat))).drew) w2.heap.size (q, p, r)) := Lib.hid (((HG.out.s0 q).s1 p).drewN 1)
          go_wp2_with fail
          go_region
          all_goals
            go_wp2_with fail
            exact ⟨⟨k + 1, by omega, by go_num, below_drewN' (below_set (below_set HB3.out (Nat.le_refl _) _) (Nat.le_refl _) _) 1, by rw [HT.out]; exact HS.out⟩, by simp [intOf]; omega⟩
        · rw [if_pos (by decide)]
          have HS : Hid (TriAt (((w4.setCell ⟨w2.heap.size, 0, none⟩ (.int .i64 (q : Nat))).setCell ⟨w2.heap.size, 1, none⟩ (.int .i64 (p : Nat))).drew) w2.heap.size (q, p, r)) := Lib.hid (((HG.out.s0 q).s1 p).drewN 1)
          go_wp2_with fail
          go_region
          all_goals
            go_wp2_with fail
            exact ⟨⟨k + 1, by omega, by go_num, below_drewN' (below_set (below_set HB3.out (Nat.le_refl _) _) (Nat.le_refl _) _) 1, by rw [HT.out]; exact HS.out⟩, by simp [intOf]; omega⟩
        · rw [if_neg (by decide)]
          have HS : Hid (TriAt (((w4.setCell ⟨w2.heap.size, 1, none⟩ (.int .i64 (r : Nat))).setCell ⟨w2.heap.size, 2, none⟩ (.int .i64 (q : Nat))).drew) w2.heap.size (p, r, q)) := Lib.hid (((HG.out.s1 r).s2 q).drewN 1)
          go_wp2_with fail
          go_region
          all_goals
            go_wp2_with fail
            exact ⟨⟨k + 1, by omega, by go_num, below_drewN' (below_set (below_set HB3.out (Nat.le_refl _) _) (Nat.le_refl _) _) 1, by rw [HT.out]; exact HS.out⟩, by simp [intOf]; omega⟩
        · rw [if_neg (by decide)]
          have HS : Hid (TriAt (((w4.setCell ⟨w2.heap.size, 1, none⟩ (.int .i64 (r : Nat))).setCell ⟨w2.heap.size, 2, none⟩ (.int .i64 (q : Nat))).drew) w2.heap.size (p, r, q)) := Lib.hid (((HG.out.s1 r).s2 q).drewN 1)
          go_wp2_with fail
          go_region
          all_goals
            go_wp2_with fail
            exact ⟨⟨k + 1, by omega, by go_num, below_drewN' (below_set (below_set HB3.out (Nat.le_refl _) _) (Nat.le_refl _) _) 1, by rw [HT.out]; exact HS.out⟩, by simp [intOf]; omega⟩
      · obtain rfl : k = t.size := by omega
        have HL := Lib.hid (show (liB t).take t.size = liB t by rw [← hl]; exact List.take_length)
        rw [HL.out] at HG
        obtain ⟨b1, b2, b3⟩ := at3_lt (liB t)
        have HEN := Lib.hid (invJ_all (runL_perm (liB t)))
        have hED : endsL (liB t) = invP (runL (liB t)).at3 := rfl
        rw [hED, ← HEN.out] at HC
        clear hED
        obtain ⟨M, hM⟩ : ∃ M, (runL (liB t)).at3 = M := ⟨_, rfl⟩
        rw [hM] at HG HC b1 b2 b3
        clear hM HEN
        obtain ⟨p, q, r⟩ := M
        dsimp only at b1 b2 b3
        have x0 : ∀ i, (wr.alloc (.cells z3 47)).cell? ⟨w2.heap.size, i, none⟩ = (tcs (p, q, r))[i]? := (HG.out.below (belowA wr (.cells z3 47))).box.2
        have HZ := Lib.hid (z3_new wr)
        have HB5 := Lib.hid (below_trans' HB3.out (belowA wr (.cells z3 47)))
        have HLZ := Lib.hid HB3.out.size
        go_wp2_with fail
        generalize wr.alloc (.cells z3 47) = w5 at x0 HZ HB5 ⊢
        generalize wr.heap.size = Z at HZ HLZ ⊢
        clear x0 HG HB3
        go_loopw [38] (fun i wr => ∃ j : Nat, j ≤ 3 ∧ i = .int .i64 j ∧ Below w2.heap.size w2 wr ∧ TriAt wr Z (invJ (p, q, r) j)) (fun i _ => 3 - (intOf i).toNat)
        case atStart => exact ⟨0, by omega, rfl, HB5.out, HZ.out⟩
        case round =>
          obtain ⟨j, hj, rfl, hb, hz⟩ := hrel
          have HB6 := Lib.hid hb
          have HZ2 := Lib.hid hz
          clear hb hz HB5 HZ
          rcases (show j = 0 ∨ j = 1 ∨ j = 2 ∨ j = 3 by omega) with rfl | rfl | rfl | rfl
          · have y1 := HZ2.out.at b1
            have z1 := HZ2.out.fz
            have HZ3 : Hid (TriAt (wr.setCell ⟨Z, p, none⟩ (.int .i64 0)) Z (invJ (p, q, r) 1)) := Lib.hid (HZ2.out.put b1 0)
            generalize invJ (p, q, r) 0 = I0 at HZ2 y1
            have T3 := ix0 (.int .i64 (p : Nat)) (.int .i64 (q : Nat)) (.int .i64 (r : Nat))
            go_wp2_with fail
            go_roundw
            case rel => exact ⟨1, by omega, rfl, below_set HB6.out HLZ.out _, HZ3.out⟩
            case measure => simp [intOf]
          · have y1 := HZ2.out.at b2
            have z1 := HZ2.out.fz
            have HZ3 : Hid (TriAt (wr.setCell ⟨Z, q, none⟩ (.int .i64 1)) Z (invJ (p, q, r) 2)) := Lib.hid (HZ2.out.put b2 1)
            generalize invJ (p, q, r) 1 = I0 at HZ2 y1
            have T3 := ix1 (.int .i64 (p : Nat)) (.int .i64 (q : Nat)) (.int .i64 (r : Nat))
            go_wp2_with fail
            go_roundw
            case rel => exact ⟨2, by omega, rfl, below_set HB6.out HLZ.out _, HZ3.out⟩
            case measure => simp [intOf]
          · have y1 := HZ2.out.at b3
            have z1 := HZ2.out.fz
            have HZ3 : Hid (TriAt (wr.setCell ⟨Z, r, none⟩ (.int .i64 2)) Z (invJ (p, q, r) 3)) := Lib.hid (HZ2.out.put b3 2)
            generalize invJ (p, q, r) 2 = I0 at HZ2 y1
            have T3 := ix2 (.int .i64 (p : Nat)) (.int .i64 (q : Nat)) (.int .i64 (r : Nat))
            go_wp2_with fail
            go_roundw
            case rel => exact ⟨3, by omega, rfl, below_set HB6.out HLZ.out _, HZ3.out⟩
            case measure => simp [intOf]
          · generalize invJ (p, q, r) 3 = D at HZ2 HC
            obtain ⟨d1, d2, d3⟩ := D
            have HM3 := Lib.hid (HM.out.belowB HB6.out HLT.out)
            have x1 := HZ2.out.box.2
            have y0 := HM3.out.box.2
            have f0 := HM3.out.fz
            have HR := Lib.hid (HM3.out.set3 (d1, d2, d3))
            have HB7 := Lib.hid (below_set3 (HB.out.trans (HB6.out.mono (Nat.le_of_lt HLT.out))) (b := w.heap.size) (Nat.le_refl _) (.int .i64 (d1 : Nat)) (.int .i64 (d2 : Nat)) (.int .i64 (d3 : Nat)))
            go_wp2_with fail
            have cF := HR.out.box.2
            refine bodyPost_ret (v := .tuple #[tval (d1, d2, d3), .int .i64 0]) (by simp [results, Tryd.results46, go_sem, cF]) rfl ⟨by rw [HC.out, HE.out], HB7.out⟩
  · have HC := Lib.hid (endsR_no h')
    have HE := Lib.hid (ansE_no h')
    rw [h']
    clear h'
    have y0 : ∀ i, w2.cell? ⟨w.heap.size, i, none⟩ = z3[i]? := HM.out.box.2
    have f0 := HM.out.fz
    have HR : Hid (TriAt (((w2.setCell ⟨w.heap.size, 0, none⟩ (.int .i64 0)).setCell ⟨w.heap.size, 1, none⟩ (.int .i64 0)).setCell ⟨w.heap.size, 2, none⟩ (.int .i64 0)) w.heap.size (0, 0, 0)) := Lib.hid (HM.out.set3 (0, 0, 0))
    have HB4 := Lib.hid (below_set3 HB.out (b := w.heap.size) (Nat.le_refl _) (.int .i64 0) (.int .i64 0) (.int .i64 0))
    go_wp2_with fail
    have cF : ∀ i, (((w2.setCell ⟨w.heap.size, 0, none⟩ (.int .i64 0)).setCell ⟨w.heap.size, 1, none⟩ (.int .i64 0)).setCell ⟨w.heap.size, 2, none⟩ (.int .i64 0)).cell? ⟨w.heap.size, i, none⟩ = z3[i]? := HR.out.box.2
    refine bodyPost_ret (v := .tuple #[tval (0, 0, 0), .int .i64 1]) (by simp [results, Tryd.results46, go_sem, cF]) rfl ⟨by rw [HC.out, HE.out], HB4.out⟩
end Go.Proofs.YtgkgloafjhiakaaDoor
