/- Walks: Crossings of both sides. -/
import Derived.Test.YtgkgloafjhiakaaDoorQ8
namespace Go.Proofs.YtgkgloafjhiakaaDoor
open Go.RowKit Go.Sort

theorem cntL_snoc (l : List UInt8) (c : UInt8) : cntL (l ++ [c]) = cntL l + (if c = 97 ∨ c = 98 then 1 else -1) := by
  rw [cntL_append]; simp [cntL]
theorem cntL_take {l : List UInt8} {k : Nat} (h : k < l.length) : cntL (l.take (k + 1)) = cntL (l.take k) + (if l[k] = 97 ∨ l[k] = 98 then 1 else -1) := by
  rw [List.take_succ_eq_append_getElem h, cntL_snoc]
theorem cntL_tb (l : List UInt8) (k : Nat) : -(l.length : Int) ≤ cntL (l.take k) ∧ cntL (l.take k) ≤ l.length := by
  have := cntL_bound (l.take k)
  have h2 : (l.take k).length ≤ l.length := by rw [List.length_take]; omega
  omega
set_option maxRecDepth 100000 in
set_option maxHeartbeats 4000000 in
theorem count_any (t : ByteArray) (w : World) (ht : t.size ≤ 60) (hW : wordL (liB t)) : Calls Tryd.prog 76 #[.string t] w fun r w' => r = .returned (.int .i64 (cntL (liB t))) ∧ w' = w := by
  have hl := li_size t
  go_enter Tryd.func76, Tryd.ntmps76
  go_wp2_with fail
  go_loopw [3, 4] (fun s i wr => ∃ k : Nat, k ≤ t.size ∧ i = .int .i64 k ∧ s = .int .i64 (cntL ((liB t).take k)) ∧ wr = w) (fun _ i _ => t.size - (intOf i).toNat)
  case atStart => exact ⟨0, by omega, rfl, rfl, rfl⟩
  case round =>
    obtain ⟨k, hk, rfl, rfl, rfl⟩ := hrel
    have hb := cntL_tb (liB t) k
    by_cases hlt : k < t.size
    · have hll : k < (liB t).length := by omega
      have hget := get_li hlt hll
      have hLk : isL t[k] := by rw [← hget]; exact hW _ (List.getElem_mem hll)
      have HT := Lib.hid (cntL_take hll)
      rw [hget] at HT
      clear hget
      generalize hcc : t[k] = d at HT hLk
      obtain ⟨S, hS⟩ : ∃ S, cntL ((liB t).take k) = S := ⟨_, rfl⟩
      rw [hS] at HT hb ⊢
      clear hS
      rcases hLk with rfl | rfl | rfl | rfl
      all_goals
        go_wp2_with fail
        go_roundw
        case rel => exact ⟨k + 1, by omega, by go_num, by rw [HT.out]; rfl, trivial⟩
        case measure => simp [intOf]; omega
    · obtain rfl : k = t.size := by omega
      have HL := Lib.hid (show (liB t).take t.size = liB t by rw [← hl]; exact List.take_length)
      clear hb
      go_wp2_with fail
      go_ret
      exact ⟨by rw [HL.out]; rfl, rfl⟩
/-- The answer of Crossings. -/
def crossR (t : ByteArray) : Int := if okW t then cntL (liB t) else 0
set_option maxRecDepth 100000 in
theorem refCrossings_any (t : ByteArray) (w : World) (ht : t.size ≤ 1000000) : Calls Tryd.prog 52 #[.string t] w fun r w' => r = .returned (.tuple #[.int .i64 (crossR t), .int .i64 (ansE t)]) ∧ w' = w := by
  go_enter Tryd.func52, Tryd.ntmps52
  go_wp2_with fail
  with_reducible refine (refValid_any t _ ht).mono ?_
  rintro _ w2 ⟨rfl, rfl⟩
  by_cases h : okW t = true
  · have hW := okW_iff.1 h
    have HC := Lib.hid (show crossR t = cntL (liB t) by unfold crossR; rw [h]; rfl)
    have HE := Lib.hid (ansE_ok h)
    rw [h]
    clear h
    go_wp2_with fail
    with_reducible refine (count_any t _ hW.1 hW.2).mono ?_
    rintro _ w3 ⟨rfl, rfl⟩
    go_wp2_with fail
    go_ret2
    exact ⟨by rw [HC.out, HE.out]; rfl, rfl⟩
  · have h' : okW t = false := by simpa using h
    have HC := Lib.hid (show crossR t = 0 by unfold crossR; rw [h']; rfl)
    have HE := Lib.hid (ansE_no h')
    rw [h']
    clear h h'
    go_wp2_with fail
    go_ret2
    exact ⟨by rw [HC.out, HE.out]; rfl, rfl⟩
set_option maxRecDepth 100000 in
set_option maxHeartbeats 4000000 in
theorem crossings_any (t : ByteArray) (w : World) (ht : t.size ≤ 1000000) : Calls Tryd.prog 42 #[.string t] w fun r w' => r = .returned (.tuple #[.int .i64 (crossR t), .int .i64 (ansE t)]) ∧ Below w.heap.size w w' := by
  have hl := li_size t
  go_enter Tryd.func42, Tryd.ntmps42
  go_wp2_with fail
  with_reducible refine (valid_any t _ ht).mono ?_
  rintro _ w2 ⟨rfl, hb⟩
  have HB := Lib.hid hb
  clear hb
  by_cases h : okW t = true
  · have hW := okW_iff.1 h
    have HC := Lib.hid (show crossR t = cntL (liB t) by unfold crossR; rw [h]; rfl)
    have HE := Lib.hid (ansE_ok h)
    rw [h]
    clear h
    go_wp2_with fail
    go_loopw [4] (fun s wr => ∃ k : Nat, k ≤ t.size ∧ s = .int .i64 (cntL ((liB t).take k)) ∧ wr.heap[w2.heap.size]? = some (.stringIter t k) ∧ Below w2.heap.size w2 wr) (fun _ wr => t.size - wr.iterPos w2.heap.size)
    case atStart => exact ⟨0, by omega, rfl, World.iter_heap w2 t 0, belowA _ _⟩
    case round =>
      obtain ⟨k, hk, rfl, hit, hbw⟩ := hrel
      have HIT := Lib.hid hit
      have HBW := Lib.hid hbw
      clear hit hbw
      have hb := cntL_tb (liB t) k
      by_cases hlt : k < t.size
      · have hll : k < (liB t).length := by omega
        have hget := get_li hlt hll
        have hLk : isL t[k] := by rw [← hget]; exact hW.2 _ (List.getElem_mem hll)
        have HT := Lib.hid (cntL_take hll)
        rw [hget] at HT
        clear hget
        have ha : (t[k]'hlt).toNat < 128 := isL_cases (P := fun c => c.toNat < 128) (by decide) (by decide) (by decide) (by decide) hLk
        have N := fun ty => Lib.run_next_ascii_at (P := Tryd.prog) wr w2.heap.size t k ty HIT.out hlt ha
        have hi := Lib.iterAt_heap wr w2.heap.size t k (k + 1) HIT.out
        have hb1 := Lib.below_iterAt HBW.out (Nat.le_refl w2.heap.size) t (k + 1)
        have hp := iterPos_of HIT.out
        generalize wr.iterAt w2.heap.size t (k + 1) = w3 at N hi hb1
        have HI := Lib.hid hi
        have HB1 := Lib.hid hb1
        have HP := Lib.hid hp
        clear hi hb1 hp ha
        generalize hcc : t[k] = d at HT hLk N
        obtain ⟨S, hS⟩ : ∃ S, cntL ((liB t).take k) = S := ⟨_, rfl⟩
        rw [hS] at HT hb ⊢
        clear hS hcc
        rcases hLk with rfl | rfl | rfl | rfl
        all_goals
          go_wp2_with fail
          go_roundw
          case rel => exact ⟨k + 1, by omega, by rw [HT.out]; rfl, HI.out, HB1.out⟩
          case measure => rw [iterPos_of HI.out, HP.out]; omega
      · obtain rfl : k = t.size := by omega
        have N := fun ty => Lib.run_next_end_at (P := Tryd.prog) wr w2.heap.size t t.size ty HIT.out hlt
        have HL := Lib.hid (show (liB t).take t.size = liB t by rw [← hl]; exact List.take_length)
        clear hb
        go_wp2_with fail
        go_ret2
        exact ⟨by rw [HL.out, HC.out, HE.out]; rfl, below_trans' HB.out HBW.out⟩
  · have h' : okW t = false := by simpa using h
    have HC := Lib.hid (show crossR t = 0 by unfold crossR; rw [h']; rfl)
    have HE := Lib.hid (ansE_no h')
    rw [h']
    clear h h'
    go_wp2_with fail
    go_ret2
    exact ⟨by rw [HC.out, HE.out]; rfl, HB.out⟩
end Go.Proofs.YtgkgloafjhiakaaDoor
