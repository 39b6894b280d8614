/- Merged texts: Wh Wi Wj C11 Qt C12 C13 Wk -/
import Derived.Test.YtnlhllleipemlaaGreatDoorG5
import Derived.Lib.SplitLaws
import Derived.Lib.IndexLaws
import Derived.StillTail
namespace Go.Proofs.YtnlhllleipemlaaGreatDoor
open Go.RowKit Go.Sort

theorem info52 : (Tryz.prog.info? 52).map (fun i => (i.zero, i.size, i.bytes)) = some (some .nilIface, 1, 16) := by kernel_rfl
theorem mk113 (n : Nat) (hn : n ≤ 1000) (w : World) : (Instr.makeSlice 113 (.int .i64 0) (.int .i64 (n : Int))).run Tryz.prog w = .ok (.slice (some ⟨w.heap.size, 0, none⟩) 0 n) (w.alloc (.cells (madeCells #[.nilIface] n) 52)) := by
  obtain ⟨i0, hi, hz0, hz1, hz2⟩ := info_parts info52
  have h := run_make (P := Tryz.prog) w 113 52 i0 _ Tryz.underlying113 hi hz0 .i64 .i64 0 n (by omega) (by omega) (by rw [hz2]; omega) (by omega)
  rw [hz1, Int.toNat_natCast, Nat.mul_one] at h
  exact h
/-- What lies there while errors are put together. -/
structure Jn (w : World) (xs : List Value) (k : Nat) (wr : World) : Prop where
  ex : ∃ A c, Box wr (w.heap.size + 1) #[.slice A k c] ∧ wr.ownsRow w.heap.size 52 1 (.slice A k c) k (xs.take k) ∧ ∀ p, A = some p → p.block ≠ w.heap.size + 1
  fz : ∀ i, wr.frozen? ⟨w.heap.size + 1, i, none⟩ = false
  bel : Below w.heap.size w wr
theorem Jn.new (w : World) (xs : List Value) : Jn w xs 0 ((w.alloc (.cells (madeCells #[.nilIface] 2) 52)).alloc (.cells #[.slice (some ⟨w.heap.size, 0, none⟩) 0 2] 116)) := by
  refine ⟨⟨some ⟨w.heap.size, 0, none⟩, 2, ?_, ?_, ?_⟩, ?_, belowAA _ _ _⟩
  · exact Box.new2 _ _ _ _ _
  · have h := World.ownsRow_lit (base := w.heap.size) (e := 52) (size := 1) w (madeCells #[.nilIface] 2) 2 (Nat.le_refl _) (by unfold maxLen; omega) (by rw [size_madeCells])
    rcases h.2 with ⟨hv, _⟩ | ⟨g', cap', cur, hv, hbb, hh, hnc, hcm, hcs, hct⟩
    · cases hv
    · injection hv with e1 e2 e3
      injection e1 with e1
      injection e1 with e1
      subst e1 e3
      refine ⟨rfl, .inr ⟨w.heap.size, 2, cur, rfl, hbb, (At.below (t := 52) hh (belowA _ _)), Nat.zero_le _, hcm, hcs, rfl⟩⟩
  · intro p hp
    cases hp
    show w.heap.size ≠ w.heap.size + 1
    omega
  · have := fz_new (w.alloc (.cells (madeCells #[.nilIface] 2) 52)) #[.slice (some ⟨w.heap.size, 0, none⟩) 0 2] 116
    rwa [World.size_alloc] at this
theorem ixE2 {ad : Addr} {n c k : Nat} (hk : k < n) (w : World) : (Instr.indexAt 113 (.slice (some ad) n c) (.int .i64 (k : Int))).run Tryz.prog w = .ok (.pointer (some (ad.add k))) w := ixE hk w
set_option maxRecDepth 100000 in
set_option maxHeartbeats 4000000 in
theorem join_any (s : ByteArray) (S : Nat) (u : TypeId) (y : Value) (w : World) (h0 : w.cell? ⟨S, 0, none⟩ = some (.iface 56 (.agg #[.string s]))) (h1 : w.cell? ⟨S, 1, none⟩ = some (.iface u y)) :
    Calls Tryz.prog 41 #[.slice (some ⟨S, 0, none⟩) 2 2] w fun e w' => (∃ J, e = .returned (.iface 114 (.pointer (some ⟨J, 0, none⟩))) ∧ Joined s w' J) ∧ Below w.heap.size w w' := by
  have hs : S < w.heap.size := World.block_lt_of_cell? _ _ h0
  have hcell : ∀ k : Nat, k < 2 → ∃ t v, w.cell? ⟨S, k, none⟩ = some (.iface t v) ∧ [Value.iface 56 (.agg #[.string s]), .iface u y][k]? = some (.iface t v) := fun k hk => by
    rcases (show k = 0 ∨ k = 1 by omega) with rfl | rfl
    · exact ⟨_, _, h0, rfl⟩
    · exact ⟨_, _, h1, rfl⟩
  obtain ⟨xs, hxs⟩ : ∃ xs, [Value.iface 56 (.agg #[.string s]), .iface u y] = xs := ⟨_, rfl⟩
  rw [hxs] at hcell
  have HX := Lib.hid hxs
  have HC := Lib.hid hcell
  clear h0 h1 hcell hxs
  have M : ∀ w, (Instr.makeSlice 113 (.int .i64 0) (.int .i64 2)).run Tryz.prog w = .ok (.slice (some ⟨w.heap.size, 0, none⟩) 0 2) (w.alloc (.cells (madeCells #[.nilIface] 2) 52)) := fun w => mk113 2 (by omega) w
  go_enter Tryz.func41, Tryz.ntmps41
  go_wp2_with fail
  go_loopw [3, 5, 11] (fun c _ i wr => ∃ k : Nat, k ≤ 2 ∧ i = .int .i64 k ∧ c = .int .i64 k ∧ wr = w) (fun _ _ i _ => 2 - (intOf i).toNat)
  case atStart => exact ⟨0, by omega, rfl, rfl, rfl⟩
  case round =>
    obtain ⟨k, hk, rfl, rfl, hw⟩ := hrel
    obtain rfl : w = wr := hw.symm
    by_cases hlt : k < 2
    · obtain ⟨t, v, c0, _⟩ := HC.out k hlt
      have X := fun w' => ixE2 (ad := ⟨S, 0, none⟩) (n := 2) (c := 2) hlt w'
      rw [Addr.add_lit, Nat.zero_add] at X
      go_wp2_with fail
      go_roundw
      case rel => exact ⟨k + 1, by omega, by go_num, by go_num, by trivial⟩
      case measure => simp [intOf]; omega
    · obtain rfl : k = 2 := by omega
      go_wp2_with fail
      have HJ0 := Lib.hid (Jn.new w xs)
      generalize (w.alloc (.cells (madeCells #[.nilIface] 2) 52)).alloc (.cells #[.slice (some ⟨w.heap.size, 0, none⟩) 0 2] 116) = w1 at HJ0 ⊢
      clear M hk hlt
      go_loopw [8, 28] (fun _ i wr => ∃ k : Nat, k ≤ 2 ∧ i = .int .i64 k ∧ Jn w xs k wr) (fun _ i _ => 2 - (intOf i).toNat)
      case atStart => exact ⟨0, by omega, rfl, HJ0.out⟩
      case round =>
        clear HJ0
        obtain ⟨k, hk, rfl, hj⟩ := hrel
        obtain ⟨⟨A, c, j1, j2, j3⟩, j4, j5⟩ := hj
        have HJ2 := Lib.hid j2
        have HJ3 := Lib.hid j3
        have HJ5 := Lib.hid j5
        have hJs : w.heap.size + 1 < wr.heap.size := j1.1
        have HJ1 := Lib.hid j1
        have HJ4 := Lib.hid j4
        have c0 := j1.at
        clear j1 j2 j3 j5
        by_cases hlt : k < 2
        · obtain ⟨t, v, c2, hx⟩ := HC.out k hlt
          have X := fun w' => ixE2 (ad := ⟨S, 0, none⟩) (n := 2) (c := 2) hlt w'
          rw [Addr.add_lit, Nat.zero_add] at X
          have c1 := (HJ5.out.cell (p := ⟨S, k, none⟩) hs).trans c2
          have HT := Lib.hid (take_succ_of hx)
          clear c2 hx
          go_wp2_with (at_builtin; refine wpList_pushXm rfl _ _ 113 52 rfl Tryz.underlying113 info52 rfl (by omega) (by omega) w.heap.size _ A k c (xs.take k) _ 1 1 [.iface t v] rfl (row_on HJ2.out (belowA _ _)) (by simp; omega) rfl (reads_new _ _ _ _ _ rfl) (by intro u hu; rw [List.mem_singleton.1 hu]; rfl) (by omega) ?_)
          intro A' c' w' h2 h3 h4
          have hown : ∀ g, (Value.slice A k c).ownBlock = some g → g ≠ w.heap.size + 1 := fun g hg => by
            cases A with
            | none => simp [Value.ownBlock] at hg
            | some a => simp [Value.ownBlock] at hg; rw [← hg]; exact HJ3.out a rfl
          have b1 := (HJ1.out.alloc (.cells #[.iface t v] 52)).grown h3 hown
          have f1 := fz_grown (b := w.heap.size + 1) (by rw [World.size_alloc]; omega) (fz_below hJs HJ4.out (belowA wr (.cells #[.iface t v] 52))) h3 hown
          have hne2 : ∀ p, A' = some p → p.block ≠ w.heap.size + 1 := fun p hp => by
            rcases h4 with h4 | h4
            · exact HJ3.out p (h4.symm.trans hp)
            · have := h4 p hp
              omega
          have hb5 : Below w.heap.size w w' := (below_trans' HJ5.out (belowA wr (.cells #[.iface t v] 52))).grown h3 (below_trans' HJ5.out (belowA wr (.cells #[.iface t v] 52))).size fun g hg => ((row_on HJ2.out (belowA wr (.cells #[.iface t v] 52))).lt g hg).1
          have HN : Hid (Jn w xs (k + 1) (w'.setCell ⟨w.heap.size + 1, 0, none⟩ (.slice A' (k + 1) c'))) := Lib.hid ⟨⟨A', c', b1.set (i := 0) (by simp) _, by
            rw [HT.out]
            exact row_far h2 (fun g hg => by
              cases A' with
              | none => simp [Value.ownBlock] at hg
              | some a => simp [Value.ownBlock] at hg; rw [← hg]; exact hne2 a rfl) _, hne2⟩, fun i => by rw [World.frozen?_setCell]; exact f1 i, hb5.setCell (p := ⟨w.heap.size + 1, 0, none⟩) (Nat.le_succ _) _⟩
          have cb := b1.at
          clear b1 h2 h3 h4 hne2 hb5 hown c0 j4
          go_wp2_with fail
          go_roundw
          case rel => exact ⟨k + 1, by omega, by go_num, HN.out⟩
          case measure => simp [intOf]; omega
        · obtain rfl : k = 2 := by omega
          go_wp2_with fail
          go_ret
          refine ⟨⟨w.heap.size + 1, rfl, ?_⟩, HJ5.out⟩
          have hrd := Reads.of_own HJ2.out
          obtain ⟨p, hp, _, hc⟩ := hrd.2 (by omega)
          rw [← HX.out] at hc
          have h1 := hc 0 _ rfl
          rcases HJ2.out.2 with ⟨hv, _⟩ | ⟨g', cap', cur, hv, _⟩
          · cases hv
          · injection hv with e1
            subst e1
            cases hp
            rw [Addr.add_lit] at h1
            exact ⟨g', c, by simpa using HJ1.out.2 0, by simpa using h1⟩
end Go.Proofs.YtnlhllleipemlaaGreatDoor

namespace Go.Proofs.YtnlhllleipemlaaGreatDoor
open Go.RowKit Go.Sort

theorem occ_byte {b : UInt8} {s : List UInt8} {i : Nat} : Lib.occAt s [b] i = true ↔ s[i]? = some b := by
  unfold Lib.occAt
  rw [List.isPrefixOf_iff_prefix]
  constructor
  · rintro ⟨q, hq⟩
    rw [← Nat.add_zero i, ← List.getElem?_drop, ← hq]
    rfl
  · intro h
    obtain ⟨hi, h⟩ := List.getElem?_eq_some_iff.1 h
    exact ⟨s.drop (i + 1), by rw [List.drop_eq_getElem_cons hi, h]; rfl⟩
theorem index_byte {b : UInt8} {u r : List UInt8} (h : b ∉ u) : Lib.index (u ++ b :: r) [b] = u.length := Lib.index_hit (fun j hj => by
    cases hc : Lib.occAt (u ++ b :: r) [b] j with
    | false => rfl
    | true =>
      have h1 := occ_byte.1 hc
      rw [List.getElem?_append_left hj] at h1
      exact absurd (List.mem_of_getElem? h1) h) (by simp) (occ_byte.2 (by simp))
theorem index_none {b : UInt8} {t : List UInt8} (h : b ∉ t) : Lib.index t [b] = -1 := Lib.index_past (i := t.length) (by simp) (fun j _ => by
    cases hc : Lib.occAt t [b] j with
    | false => rfl
    | true => exact absurd (List.mem_of_getElem? (occ_byte.1 hc)) h) (by simp)
theorem splitK_cons {u r : List UInt8} (k : Nat) (h : (32 : UInt8) ∉ u) : Lib.splitK [32] 0 (k + 1) (u ++ 32 :: r) = u :: Lib.splitK [32] 0 k r := by
  have hi := index_byte (r := r) h
  have hm : ¬ (Lib.index (u ++ 32 :: r) [32] == -1) = true := fun e => by have := beq_iff_eq.1 e; omega
  rw [Lib.splitK, if_neg hm, hi]
  simp
theorem split_body (x : Ent) : Lib.splitK [32] 0 5 (bodyL x) = [Lib.itoa x.1, Lib.itoa x.2.1, Lib.itoa x.2.2.1.1, Lib.itoa x.2.2.1.2.1, Lib.itoa x.2.2.1.2.2, x.2.2.2.data.toList] := by
  unfold bodyL
  rw [splitK_cons 4 (itoa_blank _), splitK_cons 3 (itoa_blank _), splitK_cons 2 (itoa_blank _), splitK_cons 1 (itoa_blank _), splitK_cons 0 (itoa_blank _)]
  rfl
theorem itoa_pos (n : Int) : 1 ≤ (Lib.itoa n).length := by
  unfold Lib.itoa
  have : ∀ u, 1 ≤ (Lib.decDigits u).length := fun u => by rw [Lib.decDigits_length]; exact Lib.nDigits_pos u
  split
  · simp
  · exact this _
theorem body_pos (x : Ent) : 10 ≤ (bodyL x).length := by
  unfold bodyL
  have h1 := itoa_pos x.1
  have h2 := itoa_pos x.2.1
  have h3 := itoa_pos x.2.2.1.1
  have h4 := itoa_pos x.2.2.1.2.1
  have h5 := itoa_pos x.2.2.1.2.2
  simp
  omega
/-- The pieces of a line. -/
def pcs (s : ByteArray) : List ByteArray := Lib.splitB ⟨#[32]⟩ 0 (min 6 (s.size + 1) - 1) s
theorem pcs_body {s : ByteArray} {x : Ent} (h : bodyL x = s.data.toList) : (pcs s).map (·.data.toList) = [Lib.itoa x.1, Lib.itoa x.2.1, Lib.itoa x.2.2.1.1, Lib.itoa x.2.2.1.2.1, Lib.itoa x.2.2.1.2.2, x.2.2.2.data.toList] := by
  have h1 := body_pos x
  rw [h] at h1
  have h2 : s.data.toList.length = s.size := by simp
  unfold pcs
  rw [Lib.splitB_data, show min 6 (s.size + 1) - 1 = 5 by omega]
  show Lib.splitK [32] 0 5 s.data.toList = _
  rw [← h, split_body]
theorem pcs_le (s : ByteArray) : (pcs s).length ≤ min 6 (s.size + 1) := by
  have := Lib.splitB_length_le ⟨#[32]⟩ 0 (min 6 (s.size + 1) - 1) s
  unfold pcs
  omega
theorem piece_size {s : ByteArray} : ∀ p ∈ pcs s, p.size ≤ s.size := by
  have : ∀ (k : Nat) (s : ByteArray), ∀ p ∈ Lib.splitB ⟨#[32]⟩ 0 k s, p.size ≤ s.size := by
    intro k
    induction k with
    | zero => intro s p hp; rw [Lib.splitB_zero, List.mem_singleton] at hp; rw [hp]; omega
    | succ k ih =>
      intro s p hp
      unfold Lib.splitB at hp
      split at hp
      · rw [List.mem_singleton] at hp; rw [hp]; omega
      · rcases List.mem_cons.1 hp with rfl | hp
        · rw [ByteArray.size_extract]; omega
        · have := ih _ p hp
          rw [ByteArray.size_extract] at this
          omega
  exact this _ s
/-- Of the pieces that are numbers. -/
def numsOk (s : ByteArray) (zs : List Int) (k : Nat) : Prop := zs.length = 5 ∧ ∀ j, j < k → ∃ p z, (pcs s)[j]? = some p ∧ zs[j]? = some z ∧ Lib.atoiAll p.data.toList = .ok z
/-- What the reading of a line gives. -/
def RetRd (s : ByteArray) (w : World) (r : Ending) (w' : World) : Prop := Below w.heap.size w w' ∧
  ((∃ x, fitsE x ∧ bodyL x = s.data.toList ∧ r = .returned (.tuple #[eval_ x, .nilIface])) ∨ ∃ v, ErrV s w' v ∧ (∀ x, smallE x → bodyL x ≠ s.data.toList) ∧ r = .returned (.tuple #[eval_ entZ, v]))
theorem not_few {s : ByteArray} (h : (pcs s).length < 6) : ∀ x, smallE x → bodyL x ≠ s.data.toList := fun x _ he => by
  have := congrArg List.length (pcs_body he)
  simp at this
  omega
theorem not_number {s : ByteArray} {j : Nat} (hj : j < 5) {p : ByteArray} (hp : (pcs s)[j]? = some p) (h : ∀ v, Lib.atoiAll p.data.toList ≠ .ok v) : ∀ x, smallE x → bodyL x ≠ s.data.toList := fun x hx he => by
  have h1 := pcs_body he
  have h2 : ((pcs s).map (·.data.toList))[j]? = some p.data.toList := by rw [List.getElem?_map, hp]; rfl
  rw [h1] at h2
  obtain ⟨⟨a, b⟩, ⟨c, d⟩, ⟨f, g⟩, ⟨i, l⟩, m, n⟩ := hx
  rcases (show j = 0 ∨ j = 1 ∨ j = 2 ∨ j = 3 ∨ j = 4 by omega) with rfl | rfl | rfl | rfl | rfl <;> simp at h2 <;> refine h _ (by rw [← h2]; exact atoi_itoa (by omega) (by omega))
theorem not_same {s : ByteArray} {zs : List Int} {a b c d f : Int} {t : ByteArray} (h : numsOk s zs 5) (hz : zs = [a, b, c, d, f]) (ht : (pcs s)[5]? = some t) (hne : bodyL (a, b, (c, d, f), t) ≠ s.data.toList) : ∀ x, smallE x → bodyL x ≠ s.data.toList := fun x hx he => by
  have h1 := pcs_body he
  have hg : ∀ (j : Nat) (p : ByteArray), (pcs s)[j]? = some p → ([Lib.itoa x.1, Lib.itoa x.2.1, Lib.itoa x.2.2.1.1, Lib.itoa x.2.2.1.2.1, Lib.itoa x.2.2.1.2.2, x.2.2.2.data.toList] : List (List UInt8))[j]? = some p.data.toList := fun j p hp => by
    rw [← h1, List.getElem?_map, hp]; rfl
  obtain ⟨⟨a1, a2⟩, ⟨b1, b2⟩, ⟨c1, c2⟩, ⟨d1, d2⟩, f1, f2⟩ := hx
  have key : ∀ (j : Nat), j < 5 → ∀ (y z : Int), ([x.1, x.2.1, x.2.2.1.1, x.2.2.1.2.1, x.2.2.1.2.2] : List Int)[j]? = some y → zs[j]? = some z → y = z := fun j hj y z hy hzz => by
    obtain ⟨p, z', hp, hz', hat⟩ := h.2 j hj
    obtain rfl : z = z' := Option.some.inj (hzz.symm.trans hz')
    have h2 := hg j p hp
    rcases (show j = 0 ∨ j = 1 ∨ j = 2 ∨ j = 3 ∨ j = 4 by omega) with rfl | rfl | rfl | rfl | rfl <;> simp at h2 hy <;> subst hy <;> rw [← h2, atoi_itoa (by omega) (by omega)] at hat <;> (injection hat)
  subst hz
  have e0 := key 0 (by omega) _ _ rfl rfl
  have e1 := key 1 (by omega) _ _ rfl rfl
  have e2 := key 2 (by omega) _ _ rfl rfl
  have e3 := key 3 (by omega) _ _ rfl rfl
  have e4 := key 4 (by omega) _ _ rfl rfl
  have e5 := hg 5 t ht
  simp at e5
  obtain ⟨x0, x1, ⟨x2, x3, x4⟩, x5⟩ := x
  dsimp only at e0 e1 e2 e3 e4 e5
  subst e0 e1 e2 e3 e4
  have : x5 = t := ByteArray.ext e5
  subst this
  exact hne he
end Go.Proofs.YtnlhllleipemlaaGreatDoor

namespace Go.Proofs.YtnlhllleipemlaaGreatDoor
open Go.RowKit Go.Sort

/-- A cell that holds an error, or none. -/
def ErrCell (w : World) (b : Nat) : Prop := ∃ ev, w.cell? ⟨b, 0, none⟩ = some ev ∧ (ev = .nilIface ∨ ∃ te pe, ev = .iface te pe)
/-- The library's variables are there. -/
structure MW (w : World) : Prop where
  ty : ETy w
  mx : ∃ m, w.cell? ⟨1, 0, none⟩ = some (.int .i64 m)
  sy : ErrCell w 2
  ra : ErrCell w 3
  tab : Tab w
theorem MW.below {w w' : World} (h : MW w) (hb : Below w.heap.size w w') : MW w' := by
  have k : ∀ (a : Addr) (v : Value), w.cell? a = some v → w'.cell? a = some v := fun a v h => (hb.cell (World.block_lt_of_cell? _ _ h)).trans h
  obtain ⟨h0, ⟨m, h1⟩, ⟨e, h2, h3⟩, ⟨f, h4, h5⟩, h6⟩ := h
  exact ⟨k _ _ h0, ⟨m, k _ _ h1⟩, ⟨e, k _ _ h2, h3⟩, ⟨f, k _ _ h4, h5⟩, tab_below h6 hb⟩
theorem bytes_below {w : World} {w' : World} (h : w' = w ∨ ∃ t, w' = Lib.bytesWorld w 5 t) : Below w.heap.size w w' := by
  rcases h with rfl | ⟨t, rfl⟩
  · exact Below.refl _ _
  · exact Lib.bytesWorld_below _ _ _
theorem atoi_yes (s : ByteArray) (hs : s.size ≤ 1000000) (v : Int) (h : Lib.atoiAll s.data.toList = .ok v) (w : World) :
    Calls Tryz.prog 40 #[.string s] w fun r w' => r = .returned (.tuple #[.int .i64 v, .nilIface]) ∧ Below w.heap.size w w' :=
  (Tryz.strconv_Atoi_ok s (by omega) v h w).mono fun r w' ⟨h1, h2⟩ => ⟨h1, bytes_below h2⟩
theorem atoi_not (s : ByteArray) (hs : s.size ≤ 1000000) (h : ∀ v, Lib.atoiAll s.data.toList ≠ .ok v) (w : World) (hm : MW w) :
    Calls Tryz.prog 40 #[.string s] w fun r w' => (∃ x N, r = .returned (.tuple #[.int .i64 x, .iface 153 (.pointer (some ⟨N, 0, none⟩))])) ∧ Below w.heap.size w w' := by
  obtain ⟨_, _, ⟨e, h2, h3⟩, ⟨f, h4, h5⟩, _⟩ := hm
  cases hc : Lib.atoiAll s.data.toList with
  | ok v => exact absurd hc (h v)
  | range => exact (Tryz.strconv_Atoi_range s (by omega) hc f w h4 h5).mono fun r w' ⟨N, k1, _, _, k2⟩ => ⟨⟨_, N, k1⟩, k2⟩
  | _ => exact (Any.strconv_Atoi_syntax Tryz.laysC172 s (by omega) hc e w h2 h3).mono fun r w' ⟨N, k1, _, _, k2⟩ => ⟨⟨_, N, k1⟩, k2⟩
theorem ix77 (b k : Nat) (h : k < 5) (w : World) : (Instr.indexAt 77 (.pointer (some ⟨b, 0, none⟩)) (.int .i64 (k : Int))).run Tryz.prog w = .ok (.pointer (some ⟨b, k, none⟩)) w := by
  rcases (show k = 0 ∨ k = 1 ∨ k = 2 ∨ k = 3 ∨ k = 4 by omega) with rfl | rfl | rfl | rfl | rfl <;> kernel_rfl
theorem ix75 {ad : Addr} {n c k : Nat} (hk : k < n) (w : World) : (Instr.indexAt 75 (.slice (some ad) n c) (.int .i64 (k : Int))).run Tryz.prog w = .ok (.pointer (some (ad.add k))) w := by
  have h0 : (0 : Int) ≤ (k : Int) ∧ (k : Int) < (n : Int) := by omega
  have hs : (sizeOf (Tryz.prog.elem 75)).run Tryz.prog w = .ok 1 w := by kernel_rfl
  rw [run_indexAt_slice w 75 ad n c .i64 k (by kernel_rfl), if_pos h0, hs]
  simp [Result.andThen]
theorem splitN_any (s : ByteArray) (w : World) (hs : s.size ≤ 1000000) (hm : MW w) :
    Calls Tryz.prog 39 #[.string s, .string ⟨#[32]⟩, .int .i64 6] w fun r w' => ∃ c, r = .returned (.slice (some ⟨w.heap.size, 0, none⟩) (pcs s).length c) ∧ w' = w.alloc (.cells (Lib.cellsOf (pcs s) c) 9) ∧ (pcs s).length ≤ c := by
  obtain ⟨m, h1⟩ := hm.mx
  exact (Tryz.strings_SplitN s ⟨#[32]⟩ 6 m w (by omega) h1 (by decide) (by omega) (by omega)).mono fun r w' ⟨k1, k2⟩ => ⟨min 6 (s.size + 1), k1, k2, pcs_le s⟩
theorem cells_piece {l : List ByteArray} {N j : Nat} {p : ByteArray} (h : l[j]? = some p) : (Lib.cellsOf l N)[j]? = some (.string p) := by
  unfold Lib.cellsOf
  obtain ⟨hj, h2⟩ := List.getElem?_eq_some_iff.1 h
  rw [List.getElem?_toArray, List.getElem?_append_left (by simpa using hj), List.getElem?_map, h]
  rfl
abbrev zero6 : Array Value := #[.int .i64 0, .int .i64 0, .int .i64 0, .int .i64 0, .int .i64 0, .string ⟨#[]⟩]
/-- Six cells laid. -/
abbrev put6 (u : World) (N : Nat) (x0 x1 x2 x3 x4 x5 : Value) : World := (((((u.setCell ⟨N, 0, none⟩ x0).setCell ⟨N, 1, none⟩ x1).setCell ⟨N, 2, none⟩ x2).setCell ⟨N, 3, none⟩ x3).setCell ⟨N, 4, none⟩ x4).setCell ⟨N, 5, none⟩ x5
theorem box_put6 {u : World} {N : Nat} {a b c d e f : Value} (h : Box u N #[a, b, c, d, e, f]) (x0 x1 x2 x3 x4 x5 : Value) : Box (put6 u N x0 x1 x2 x3 x4 x5) N #[x0, x1, x2, x3, x4, x5] :=
  (((((h.set (i := 0) (by simp) x0).set (i := 1) (by simp) x1).set (i := 2) (by simp) x2).set (i := 3) (by simp) x3).set (i := 4) (by simp) x4).set (i := 5) (by simp) x5
theorem below_put6 {b : Nat} {w u : World} {N : Nat} (h : Below b w u) (hb : b ≤ N) (x0 x1 x2 x3 x4 x5 : Value) : Below b w (put6 u N x0 x1 x2 x3 x4 x5) :=
  (((((h.setCell (p := ⟨N, 0, none⟩) hb x0).setCell (p := ⟨N, 1, none⟩) hb x1).setCell (p := ⟨N, 2, none⟩) hb x2).setCell (p := ⟨N, 3, none⟩) hb x3).setCell (p := ⟨N, 4, none⟩) hb x4).setCell (p := ⟨N, 5, none⟩) hb x5
theorem cell_put6 {u : World} {N J : Nat} (h : J = N → False) {x0 x1 x2 x3 x4 x5 : Value} : (put6 u N x0 x1 x2 x3 x4 x5).cell? ⟨J, 0, none⟩ = u.cell? ⟨J, 0, none⟩ := by
  have k : ∀ (w : World) (i : Nat) (x : Value), (w.setCell ⟨N, i, none⟩ x).cell? ⟨J, 0, none⟩ = w.cell? ⟨J, 0, none⟩ := fun w i x => World.cell?_setCell_other _ _ _ _ (fun e => h (by injection e with e1; exact e1.symm))
  rw [k, k, k, k, k, k]
/-- What lies there while a line is read. -/
structure Rd (s : ByteArray) (w : World) (zs : List Int) (k : Nat) (wr : World) : Prop where
  res : Box wr w.heap.size zero6
  rfz : ∀ i, wr.frozen? ⟨w.heap.size, i, none⟩ = false
  pc : ∀ (j : Nat) p, (pcs s)[j]? = some p → wr.cell? ⟨w.heap.size + 1, j, none⟩ = some (.string p)
  arr : Box wr (w.heap.size + 2) (ints zs).toArray
  afz : ∀ i, wr.frozen? ⟨w.heap.size + 2, i, none⟩ = false
  ok : numsOk s zs k
  bel : Below w.heap.size w wr
theorem Rd.on {s : ByteArray} {w wr w' : World} {zs : List Int} {k : Nat} (h : Rd s w zs k wr) (hb : Below wr.heap.size wr w') : Rd s w zs k w' :=
  ⟨h.res.below hb, fz_below h.res.1 h.rfz hb, fun j p hp => (hb.cell (p := ⟨w.heap.size + 1, j, none⟩) (World.block_lt_of_cell? _ _ (h.pc j p hp))).trans (h.pc j p hp), h.arr.below hb, fz_below h.arr.1 h.afz hb, h.ok, below_trans' h.bel hb⟩
theorem Rd.put {s : ByteArray} {w wr : World} {zs : List Int} {k : Nat} (h : Rd s w zs k wr) (hk : k < 5) {p : ByteArray} {v : Int} (hp : (pcs s)[k]? = some p) (hv : Lib.atoiAll p.data.toList = .ok v) : Rd s w (zs.set k v) (k + 1) (wr.setCell ⟨w.heap.size + 2, k, none⟩ (.int .i64 v)) := by
  have hl := h.ok.1
  refine ⟨h.res.far (p := ⟨w.heap.size + 2, k, none⟩) (by show w.heap.size ≠ w.heap.size + 2; omega) _, fun i => by rw [World.frozen?_setCell]; exact h.rfz i, fun j q hq => ?_, ?_, fun i => by rw [World.frozen?_setCell]; exact h.afz i, ?_, h.bel.setCell (p := ⟨w.heap.size + 2, k, none⟩) (by show w.heap.size ≤ w.heap.size + 2; omega) _⟩
  · rw [World.cell?_setCell_other _ _ _ _ (fun e => by injection e with e1; omega)]
    exact h.pc j q hq
  · have := h.arr.set (i := k) (by simp [ints, hl]; omega) (.int .i64 v)
    rw [show (ints (zs.set k v)).toArray = (ints zs).toArray.setIfInBounds k (.int .i64 v) by simp [ints, List.map_set]]
    exact this
  · refine ⟨by simp [hl], fun j hj => ?_⟩
    by_cases he : j = k
    · subst he
      exact ⟨p, v, hp, by rw [List.getElem?_set_self (by omega)], hv⟩
    · obtain ⟨q, z, h1, h2, h3⟩ := h.ok.2 j (by omega)
      exact ⟨q, z, h1, by rw [List.getElem?_set_ne (Ne.symm he)]; exact h2, h3⟩
theorem Rd.at {s : ByteArray} {w wr : World} {zs : List Int} {k : Nat} (h : Rd s w zs k wr) {j : Nat} (hj : j < 5) : ∃ z, zs[j]? = some z ∧ wr.cell? ⟨w.heap.size + 2, j, none⟩ = some (.int .i64 z) := by
  have hz : zs[j]? = some (zs[j]'(by rw [h.ok.1]; exact hj)) := List.getElem?_eq_getElem _
  exact ⟨_, hz, by rw [h.arr.2 j]; simp [ints, hz]⟩
set_option maxRecDepth 100000 in
set_option maxHeartbeats 4000000 in
theorem read_any (s : ByteArray) (w : World) (hs : s.size ≤ 10000) (hm : MW w) : Calls Tryz.prog 21 #[.string s] w (RetRd s w) := by
  have HM := Lib.hid hm
  clear hm
  have B0 := Lib.hid (Box.new w zero6 48)
  have F0 := Lib.hid (fz_new w zero6 48)
  have HW0 := Lib.hid (belowA w (.cells zero6 48))
  go_enter Tryz.func21, Tryz.ntmps21
  go_wp2_with fail
  with_reducible refine (splitN_any s _ (by omega) (HM.out.below HW0.out)).mono ?_
  rintro _ w2 ⟨c, rfl, hw2, hc⟩
  have HW2 : Hid (Below w.heap.size w w2) := Lib.hid (by rw [hw2]; exact below_trans' HW0.out (belowA _ _))
  have B2 : Hid (Box w2 w.heap.size zero6) := Lib.hid (by rw [hw2]; exact B0.out.alloc _)
  have F2 : Hid (∀ i, w2.frozen? ⟨w.heap.size, i, none⟩ = false) := Lib.hid (by rw [hw2]; exact fz_below B0.out.1 F0.out (belowA _ _))
  have PC2 : Hid (∀ (j : Nat) p, (pcs s)[j]? = some p → w2.cell? ⟨w.heap.size + 1, j, none⟩ = some (.string p)) := Lib.hid fun j p hp => by
    have h1 := (Box.new (w.alloc (.cells zero6 48)) (Lib.cellsOf (pcs s) c) 9).2 j
    rw [World.size_alloc] at h1
    rw [hw2, h1]
    exact cells_piece hp
  have hsz : w2.heap.size = w.heap.size + 2 := by rw [hw2, World.size_alloc, World.size_alloc]
  rw [World.size_alloc]
  obtain ⟨m, hml⟩ : ∃ m, (pcs s).length = m := ⟨_, rfl⟩
  have HML := Lib.hid hml
  have hm6 : m ≤ 6 := by have := pcs_le s; omega
  rw [hml] at hc ⊢
  have HSZ := Lib.hid hsz
  clear hml hw2 hsz B0 F0 HW0
  by_cases hlt : m < 6
  · have HN := Lib.hid (not_few (s := s) (by have := HML.out; omega))
    have c0 := B2.out.at
    have f0 := F2.out
    go_wp2_with fail
    have cF := (box_put6 B2.out (.int .i64 0) (.int .i64 0) (.int .i64 0) (.int .i64 0) (.int .i64 0) (.string ⟨#[]⟩)).at
    exact bodyPost_ret (v := .tuple #[eval_ entZ, .iface 56 (.agg #[.string s])]) (by simp [results, Tryz.results21, go_sem, cF, eval_, entZ]) rfl ⟨below_put6 HW2.out (Nat.le_refl _) _ _ _ _ _ _, .inr ⟨_, .inl rfl, HN.out, rfl⟩⟩
  · obtain rfl : m = 6 := by omega
    go_wp2_with fail
    have HR : Hid (Rd s w [0, 0, 0, 0, 0] 0 (w2.alloc (.cells #[.int .i64 0, .int .i64 0, .int .i64 0, .int .i64 0, .int .i64 0] 77))) := Lib.hid ⟨B2.out.alloc _, fz_below B2.out.1 F2.out (belowA _ _), fun j p hp => ((belowA _ _).cell (p := ⟨w.heap.size + 1, j, none⟩) (World.block_lt_of_cell? _ _ (PC2.out j p hp))).trans (PC2.out j p hp),
      by rw [← HSZ.out]; exact Box.new _ _ _, by rw [← HSZ.out]; exact fz_new _ _ _, ⟨rfl, fun j hj => by omega⟩, below_trans' HW2.out (belowA _ _)⟩
    generalize w2.alloc (.cells #[.int .i64 0, .int .i64 0, .int .i64 0, .int .i64 0, .int .i64 0] 77) = w3 at HR ⊢
    rw [HSZ.out]
    clear HW2 B2 F2 PC2 HSZ hm6 hlt
    go_loopw [6, 7, 18] (fun _ _ i wr => ∃ (k : Nat) (zs : List Int), k ≤ 5 ∧ i = .int .i64 k ∧ Rd s w zs k wr) (fun _ _ i _ => 5 - (intOf i).toNat)
    case atStart => exact ⟨0, _, by omega, rfl, HR.out⟩
    case round =>
      clear HR
      obtain ⟨k, zs, hk, rfl, hrd⟩ := hrel
      have HR := Lib.hid hrd
      clear hrd
      by_cases hlt : k < 5
      · obtain ⟨p, hp⟩ : ∃ p, (pcs s)[k]? = some p := ⟨_, List.getElem?_eq_getElem (by have := HML.out; omega)⟩
        have hpz := piece_size p (List.mem_of_getElem? hp)
        have HP := Lib.hid hp
        have cp := HR.out.pc k p hp
        have X := fun w' => ix75 (ad := ⟨w.heap.size + 1, 0, none⟩) (n := 6) (c := c) (k := k) (by omega) w'
        rw [Addr.add_lit, Nat.zero_add] at X
        have Y := fun w' => ix77 (w.heap.size + 2) k hlt w'
        clear hp
        by_cases hat : ∃ v, Lib.atoiAll p.data.toList = .ok v
        · obtain ⟨v, hv⟩ := hat
          have HV := Lib.hid hv
          clear hv
          go_wp2_with fail
          with_reducible refine (atoi_yes p (by omega) v HV.out _).mono ?_
          rintro _ w4 ⟨rfl, hb4⟩
          have HR4 := Lib.hid (HR.out.on hb4)
          obtain ⟨z, _, cz⟩ := HR4.out.at hlt
          have fz := HR4.out.afz
          have HR5 := Lib.hid (HR4.out.put hlt HP.out HV.out)
          clear hb4 cp HR HR4
          go_wp2_with fail
          go_roundw
          case rel => exact ⟨k + 1, _, by omega, by go_num, HR5.out⟩
          case measure => simp [intOf]; omega
        · have HAT : Hid (∀ v, Lib.atoiAll p.data.toList ≠ .ok v) := Lib.hid fun v hv => hat ⟨v, hv⟩
          clear hat
          go_wp2_with fail
          with_reducible refine (atoi_not p (by omega) HAT.out _ (HM.out.below HR.out.bel)).mono ?_
          rintro _ w4 ⟨⟨y, M, rfl⟩, hb4⟩
          have HR4 := Lib.hid (HR.out.on hb4)
          obtain ⟨z, hz, cz⟩ := HR4.out.at hlt
          have fz := HR4.out.afz
          have c0 := HR4.out.res.at
          have f0 := HR4.out.rfz
          have HN := Lib.hid (not_number hlt HP.out HAT.out)
          clear hb4 cp HR hz
          go_wp2_with fail
          have bS : Box ((w4.setCell ⟨w.heap.size + 2, k, none⟩ (.int .i64 y)).alloc (.cells #[.iface 56 (.agg #[.string s]), .iface 153 (.pointer (some ⟨M, 0, none⟩))] 52)) w4.heap.size #[.iface 56 (.agg #[.string s]), .iface 153 (.pointer (some ⟨M, 0, none⟩))] := by
            have := Box.new (w4.setCell ⟨w.heap.size + 2, k, none⟩ (.int .i64 y)) #[.iface 56 (.agg #[.string s]), .iface 153 (.pointer (some ⟨M, 0, none⟩))] 52
            rwa [size_set] at this
          have r5 := (HR4.out.res.far (p := ⟨w.heap.size + 2, k, none⟩) (by show w.heap.size ≠ w.heap.size + 2; omega) (.int .i64 y)).alloc (.cells #[.iface 56 (.agg #[.string s]), .iface 153 (.pointer (some ⟨M, 0, none⟩))] 52)
          have g5 := fz_below (b := w.heap.size) (w := w4.setCell ⟨w.heap.size + 2, k, none⟩ (.int .i64 y)) (by rw [size_set]; exact HR4.out.res.1) (fun i => by rw [World.frozen?_setCell]; exact HR4.out.rfz i) (belowA _ (.cells #[.iface 56 (.agg #[.string s]), .iface 153 (.pointer (some ⟨M, 0, none⟩))] 52))
          have w5 := below_trans' (HR4.out.bel.setCell (p := ⟨w.heap.size + 2, k, none⟩) (by show w.heap.size ≤ w.heap.size + 2; omega) (.int .i64 y)) (belowA _ (.cells #[.iface 56 (.agg #[.string s]), .iface 153 (.pointer (some ⟨M, 0, none⟩))] 52))
          have HBS := Lib.hid bS
          have HR5 := Lib.hid r5
          have HG5 := Lib.hid g5
          have HW5 := Lib.hid w5
          clear bS r5 g5 w5 cz fz c0 f0
          with_reducible refine (join_any s w4.heap.size 153 (.pointer (some ⟨M, 0, none⟩)) _ (HBS.out.at 0) (HBS.out.at 1)).mono ?_
          rintro _ w6 ⟨⟨J, rfl, hJ⟩, hb6⟩
          have B6 := Lib.hid (HR5.out.below hb6)
          have F6 := Lib.hid (fz_below HR5.out.1 HG5.out hb6)
          have HW6 := Lib.hid (below_trans' HW5.out hb6)
          have c0 := B6.out.at
          have f0 := F6.out
          have HJ := Lib.hid hJ
          clear hb6 hJ HBS HR5 HG5 HW5
          go_wp2_with fail
          have cF := (box_put6 B6.out (.int .i64 0) (.int .i64 0) (.int .i64 0) (.int .i64 0) (.int .i64 0) (.string ⟨#[]⟩)).at
          have hjn : Joined s (put6 w6 w.heap.size (.int .i64 0) (.int .i64 0) (.int .i64 0) (.int .i64 0) (.int .i64 0) (.string ⟨#[]⟩)) J := by
            obtain ⟨R, cc, j1, j2⟩ := HJ.out.ex
            have e0 := B6.out.at 0
            refine ⟨R, cc, ?_, ?_⟩
            · rw [cell_put6 (fun e => by rw [e] at j1; exact absurd (j1.symm.trans e0) (by simp))]; exact j1
            · rw [cell_put6 (fun e => by rw [e] at j2; exact absurd (j2.symm.trans e0) (by simp))]; exact j2
          exact bodyPost_ret (v := .tuple #[eval_ entZ, .iface 114 (.pointer (some ⟨J, 0, none⟩))]) (by simp [results, Tryz.results21, go_sem, cF, eval_, entZ]) rfl ⟨below_put6 HW6.out (Nat.le_refl _) _ _ _ _ _ _, .inr ⟨_, .inr ⟨J, rfl, hjn⟩, HN.out, rfl⟩⟩
      · obtain rfl : k = 5 := by omega
        obtain ⟨z0, hz0, a0⟩ := HR.out.at (j := 0) (by omega)
        obtain ⟨z1, hz1, a1⟩ := HR.out.at (j := 1) (by omega)
        obtain ⟨z2, hz2, a2⟩ := HR.out.at (j := 2) (by omega)
        obtain ⟨z3, hz3, a3⟩ := HR.out.at (j := 3) (by omega)
        obtain ⟨z4, hz4, a4⟩ := HR.out.at (j := 4) (by omega)
        obtain ⟨t, ht5⟩ : ∃ t, (pcs s)[5]? = some t := ⟨_, List.getElem?_eq_getElem (by have := HML.out; omega)⟩
        have a5 := HR.out.pc 5 t ht5
        have hzs : zs = [z0, z1, z2, z3, z4] := by
          have hl := HR.out.ok.1
          apply List.ext_getElem?
          intro j
          rcases Nat.lt_or_ge j 5 with hj | hj
          · rcases (show j = 0 ∨ j = 1 ∨ j = 2 ∨ j = 3 ∨ j = 4 by omega) with rfl | rfl | rfl | rfl | rfl <;> simp [hz0, hz1, hz2, hz3, hz4]
          · rw [List.getElem?_eq_none (by omega), List.getElem?_eq_none (by simpa using hj)]
        have hts : t.size ≤ 100000 := by have := piece_size t (List.mem_of_getElem? ht5); omega
        have HFT : Hid (fitsE (z0, z1, (z2, z3, z4), t)) := Lib.hid (by
          have key : ∀ (j : Nat) (z : Int), j < 5 → zs[j]? = some z → fits z := fun j z hj hz => by
            obtain ⟨p, z', _, h2, h3⟩ := HR.out.ok.2 j hj
            obtain rfl : z = z' := Option.some.inj (hz.symm.trans h2)
            exact Lib.atoiAll_bounds h3
          exact ⟨key 0 _ (by omega) hz0, key 1 _ (by omega) hz1, key 2 _ (by omega) hz2, key 3 _ (by omega) hz3, key 4 _ (by omega) hz4⟩)
        have HNS : Hid (bodyL (z0, z1, (z2, z3, z4), t) ≠ s.data.toList → ∀ x, smallE x → bodyL x ≠ s.data.toList) := Lib.hid (not_same HR.out.ok hzs ht5)
        have Y0 : ∀ w', (Instr.indexAt 77 (.pointer (some ⟨w.heap.size + 2, 0, none⟩)) (.int .i64 0)).run Tryz.prog w' = .ok (.pointer (some ⟨w.heap.size + 2, 0, none⟩)) w' := fun w' => ix77 _ 0 (by omega) w'
        have Y1 : ∀ w', (Instr.indexAt 77 (.pointer (some ⟨w.heap.size + 2, 0, none⟩)) (.int .i64 1)).run Tryz.prog w' = .ok (.pointer (some ⟨w.heap.size + 2, 1, none⟩)) w' := fun w' => ix77 _ 1 (by omega) w'
        have Y2 : ∀ w', (Instr.indexAt 77 (.pointer (some ⟨w.heap.size + 2, 0, none⟩)) (.int .i64 2)).run Tryz.prog w' = .ok (.pointer (some ⟨w.heap.size + 2, 2, none⟩)) w' := fun w' => ix77 _ 2 (by omega) w'
        have Y3 : ∀ w', (Instr.indexAt 77 (.pointer (some ⟨w.heap.size + 2, 0, none⟩)) (.int .i64 3)).run Tryz.prog w' = .ok (.pointer (some ⟨w.heap.size + 2, 3, none⟩)) w' := fun w' => ix77 _ 3 (by omega) w'
        have Y4 : ∀ w', (Instr.indexAt 77 (.pointer (some ⟨w.heap.size + 2, 0, none⟩)) (.int .i64 4)).run Tryz.prog w' = .ok (.pointer (some ⟨w.heap.size + 2, 4, none⟩)) w' := fun w' => ix77 _ 4 (by omega) w'
        have Y5 : ∀ w', (Instr.indexAt 75 (.slice (some ⟨w.heap.size + 1, 0, none⟩) 6 c) (.int .i64 5)).run Tryz.prog w' = .ok (.pointer (some ⟨w.heap.size + 1, 5, none⟩)) w' := fun w' => by
          have := ix75 (ad := ⟨w.heap.size + 1, 0, none⟩) (n := 6) (c := c) (k := 5) (by omega) w'
          rw [Addr.add_lit, Nat.zero_add] at this
          exact this
        have A0 := Lib.hid a0
        have A1 := Lib.hid a1
        have A2 := Lib.hid a2
        have A3 := Lib.hid a3
        have A4 := Lib.hid a4
        have A5 := Lib.hid a5
        clear a0 a1 a2 a3 a4 a5 hz0 hz1 hz2 hz3 hz4 hzs ht5
        go_wp2_with fail
        refine wp_region_hw [0, 1, 2, 3, 4, 5, 6, 7, 8, 9, 10, 11, 12, 13, 14] [15, 16] (fun W => Below wr.heap.size wr W) mixed (by kernel_rfl) (Rl := fun u v => Below u.heap.size u v) (fun w => Below.refl _ _) (fun _ _ _ h1 h2 => below_trans' h1 h2) (fun W W' h hg => below_trans' h hg) (below_drewN' (Below.refl _ _) 1) ?_
        iterate 15
          refine canonR_read (v := ?_) rfl (by rfl) ?_ ?_
          rotate_left
          · intro W hSw
            have k : ∀ (a : Addr) (v : Value), wr.cell? a = some v → W.cell? a = some v := fun a v h => (hSw.cell (World.block_lt_of_cell? _ _ h)).trans h
            have a0 := k _ _ A0.out
            have a1 := k _ _ A1.out
            have a2 := k _ _ A2.out
            have a3 := k _ _ A3.out
            have a4 := k _ _ A4.out
            have a5 := k _ _ A5.out
            clear k
            go_simp <;> with_reducible rfl
          simp only [List.getElem_toArray, List.getElem_cons_zero, List.getElem_cons_succ, Act.put, List.setIfInBounds_toArray, List.set_cons_succ, List.set_cons_zero]
        clear Y0 Y1 Y2 Y3 Y4 Y5 A0 A1 A2 A3 A4 A5
        refine canonR_nil ?_
        refine tailR_one (t := 15) (ts' := [16]) (by kernel_rfl) rfl rfl ?_
        intro w6 hb6
        have hb6' := below_trans' (below_drewN' (Below.refl _ _) 1 : Below wr.heap.size wr wr.drew) hb6
        have HB6 := Lib.hid hb6'
        clear hb6 hb6'
        go_wp2_with fail
        refine ⟨below_trans' HB6.out (belowA _ _), ?_⟩
        refine tailR_last (t := 16) (by kernel_rfl) rfl ?_
        intro w8 hb8
        have b8 := (Box.new w6 zero6 48).below hb8
        have f8 := fz_below (Box.new w6 zero6 48).1 (fz_new w6 zero6 48) hb8
        have HB8 := Lib.hid (below_trans' HB6.out (below_trans' (belowA w6 (.cells zero6 48)) hb8))
        have HR8 := Lib.hid (HR.out.on HB8.out)
        obtain ⟨q, hq⟩ : ∃ q, w6.heap.size = q := ⟨_, rfl⟩
        have hqw : w.heap.size + 2 < q := by
          have h1 := HR.out.arr.1
          have h2 := HB6.out.size
          omega
        rw [hq] at b8 f8 ⊢
        have HQW := Lib.hid hqw
        have HB8' := Lib.hid b8
        have c8 := b8.at
        clear b8 hb8 HR hq hqw
        go_wp2_with fail
        refine NoPanic.normal ?_
        have cF := (box_put6 HB8'.out (.int .i64 z0) (.int .i64 z1) (.int .i64 z2) (.int .i64 z3) (.int .i64 z4) (.string t))
        have r9 : Box (put6 w8 q (.int .i64 z0) (.int .i64 z1) (.int .i64 z2) (.int .i64 z3) (.int .i64 z4) (.string t)) w.heap.size zero6 ∧ (∀ i, (put6 w8 q (.int .i64 z0) (.int .i64 z1) (.int .i64 z2) (.int .i64 z3) (.int .i64 z4) (.string t)).frozen? ⟨w.heap.size, i, none⟩ = false) := by
          have hn : w.heap.size ≠ q := by have := HQW.out; omega
          exact ⟨((((((HR8.out.res.far (p := ⟨q, 0, none⟩) hn _).far (p := ⟨q, 1, none⟩) hn _).far (p := ⟨q, 2, none⟩) hn _).far (p := ⟨q, 3, none⟩) hn _).far (p := ⟨q, 4, none⟩) hn _).far (p := ⟨q, 5, none⟩) hn _), fun i => by simp only [put6, World.frozen?_setCell]; exact HR8.out.rfz i⟩
        have w9 := below_put6 HR8.out.bel (by have := HQW.out; omega : w.heap.size ≤ q) (.int .i64 z0) (.int .i64 z1) (.int .i64 z2) (.int .i64 z3) (.int .i64 z4) (.string t)
        unfold put6 at cF r9 w9
        generalize (((((w8.setCell ⟨q, 0, none⟩ (.int .i64 z0)).setCell ⟨q, 1, none⟩ (.int .i64 z1)).setCell ⟨q, 2, none⟩ (.int .i64 z2)).setCell ⟨q, 3, none⟩ (.int .i64 z3)).setCell ⟨q, 4, none⟩ (.int .i64 z4)).setCell ⟨q, 5, none⟩ (.string t) = wz at cF r9 w9 ⊢
        have HW9 := Lib.hid w9
        have HR9 := Lib.hid r9
        have HCF := Lib.hid cF
        have cx := cF.at
        clear c8 f8 HB8' HR8 w9 r9 cF HB6 HB8
        go_wp2_with fail
        with_reducible refine (line_any (z0, z1, (z2, z3, z4), t) _ HFT.out hts (HM.out.below HW9.out).tab).mono ?_
        rintro _ wl ⟨rfl, hbl⟩
        have HWL := Lib.hid (below_trans' HW9.out hbl)
        have HRL := Lib.hid (HR9.out.1.below hbl)
        have HFL := Lib.hid (fz_below HR9.out.1.1 HR9.out.2 hbl)
        have HCL := Lib.hid (HCF.out.below hbl)
        clear cx hbl HW9 HR9 HCF
        have c0 := HRL.out.at
        have f0 := HFL.out
        have hlen : (s ++ (⟨#[10]⟩ : ByteArray)).toList = s.data.toList ++ [10] := by rw [ByteArray.toList_eq, ByteArray.data_append]; simp
        by_cases hbd : bodyL (z0, z1, (z2, z3, z4), t) = s.data.toList
        · have g : (lineL (z0, z1, (z2, z3, z4), t) == (s ++ (⟨#[10]⟩ : ByteArray)).toList) = true := by
            rw [hlen, ← hbd]
            simp [lineL]
          have HBD := Lib.hid hbd
          have c1 := HCL.out.at
          clear hlen hbd
          go_wp2_with fail
          have cF := (box_put6 HRL.out (.int .i64 z0) (.int .i64 z1) (.int .i64 z2) (.int .i64 z3) (.int .i64 z4) (.string t)).at
          exact bodyPost_ret (v := .tuple #[eval_ (z0, z1, (z2, z3, z4), t), .nilIface]) (by simp [results, Tryz.results21, go_sem, cF, eval_]) rfl ⟨below_put6 HWL.out (Nat.le_refl _) _ _ _ _ _ _, .inl ⟨_, HFT.out, HBD.out, rfl⟩⟩
        · have HN := Lib.hid (HNS.out hbd)
          have g : (lineL (z0, z1, (z2, z3, z4), t) == (s ++ (⟨#[10]⟩ : ByteArray)).toList) = false := by
            rw [hlen, beq_eq_false_iff_ne]
            exact fun e => hbd (List.append_cancel_right e)
          clear hlen hbd
          go_wp2_with fail
          have cF := (box_put6 HRL.out (.int .i64 0) (.int .i64 0) (.int .i64 0) (.int .i64 0) (.int .i64 0) (.string ⟨#[]⟩)).at
          exact bodyPost_ret (v := .tuple #[eval_ entZ, .iface 56 (.agg #[.string s])]) (by simp [results, Tryz.results21, go_sem, cF, eval_, entZ]) rfl ⟨below_put6 HWL.out (Nat.le_refl _) _ _ _ _ _ _, .inr ⟨_, .inl rfl, HN.out, rfl⟩⟩
end Go.Proofs.YtnlhllleipemlaaGreatDoor

namespace Go.Proofs.YtnlhllleipemlaaGreatDoor
open Go.RowKit Go.Sort

/-- A list of entries in memory of the call's own, and an error. -/
def RetE (es : List Ent) (e : Int) (w : World) (r : Ending) (w' : World) : Prop :=
  ∃ B d, r = .returned (.tuple #[.slice B es.length d, .int .i64 e]) ∧ w'.ownsRow w.heap.size 48 6 (.slice B es.length d) es.length (ents es) ∧ Below w.heap.size w w'
theorem RetE.nil {e e' : Int} {w w' : World} (h : e' = e) (hb : Below w.heap.size w w') : RetE [] e w (.returned (.tuple #[.slice none 0 0, .int .i64 e'])) w' := ⟨none, 0, by rw [h]; rfl, World.ownsRow_nil _ _ _ _, hb⟩
def addL' (c : List Ent) (p : Int) (t : ByteArray) : List Ent := if addE c p t = 0 then addR c p t else []
/-- What the block of a clock holds, a cell at a time. -/
structure Clk4 (es : List Ent) (b k : Nat) (w : World) : Prop where
  c0 : w.cell? ⟨b, 0, none⟩ = some (.int .i64 (clk es 0 : Nat))
  c1 : w.cell? ⟨b, 1, none⟩ = some (.int .i64 (clk es 1 : Nat))
  c2 : w.cell? ⟨b, 2, none⟩ = some (.int .i64 (clk es 2 : Nat))
  ck : w.cell? ⟨b, k, none⟩ = some (.int .i64 (clk es k : Nat))
theorem Clk4.of {es : List Ent} {b k : Nat} {w : World} (h : Box w b #[.int .i64 (clk es 0 : Nat), .int .i64 (clk es 1 : Nat), .int .i64 (clk es 2 : Nat)]) (hk : k < 3) : Clk4 es b k w := ⟨h.at 0, h.at 1, h.at 2, clk_cell h hk⟩
theorem Clk4.drew {es : List Ent} {b k : Nat} {w : World} (h : Clk4 es b k w) : Clk4 es b k w.drew := ⟨h.c0, h.c1, h.c2, h.ck⟩
theorem Clk4.grown {es : List Ent} {b k : Nat} {w w' : World} {row : Option Nat} (h : Clk4 es b k w) (hb : b < w.heap.size) (hg : w.grownBy w' row) (hne : ∀ j, row = some j → j ≠ b) : Clk4 es b k w' := by
  have e : ∀ i, w'.cell? ⟨b, i, none⟩ = w.cell? ⟨b, i, none⟩ := fun i => World.cell?_of_block (a := ⟨b, i, none⟩) (hg.block b hb fun e => hne b e.symm rfl)
  exact ⟨(e 0).trans h.c0, (e 1).trans h.c1, (e 2).trans h.c2, (e k).trans h.ck⟩
theorem Clk4.below {es : List Ent} {b k : Nat} {w w' : World} (hb : b < w.heap.size) (h : Clk4 es b k w) (hw : Below w.heap.size w w') : Clk4 es b k w' :=
  ⟨(hw.cell (p := ⟨b, 0, none⟩) hb).trans h.c0, (hw.cell (p := ⟨b, 1, none⟩) hb).trans h.c1, (hw.cell (p := ⟨b, 2, none⟩) hb).trans h.c2, (hw.cell (p := ⟨b, k, none⟩) hb).trans h.ck⟩
set_option maxRecDepth 100000 in
set_option maxHeartbeats 4000000 in
theorem add_any (A : Option Addr) (n c : Nat) (es : List Ent) (p : Int) (t : ByteArray) (w : World) (hl : Reads w w.heap.size 6 A n (ents es)) (hn : n ≤ 1000000) (ht : shortT es) (hs : t.size ≤ 1000000) :
    Calls Tryz.prog 15 #[.slice A n c, .int .i64 p, .string t] w (RetE (addL' es p t) (addE es p t) w) := by
  have hlen := hl.1
  rw [ents_length] at hlen
  have l1 : n ≤ es.length := by omega
  have l2 : es.length ≤ n := by omega
  have HL := Lib.hid hl
  have HS := Lib.hid ht
  clear hl ht hlen
  go_enter Tryz.func15, Tryz.ntmps15
  go_wp2_with fail
  with_reducible refine (validate_any A n c es _ HL.out hn HS.out).mono ?_
  rintro _ w2 ⟨rfl, hb2⟩
  have HW2 := Lib.hid hb2
  clear hb2
  by_cases hv : val es = 0
  case neg =>
    have HV : Hid (addE es p t = val es) := Lib.hid (if_pos hv)
    have HV2 : Hid (addL' es p t = []) := Lib.hid (by unfold addL'; rw [HV.out, if_neg hv])
    have g := neB hv
    clear hv
    go_wp2_with fail
    go_ret2
    rw [HV2.out]
    exact RetE.nil HV.out.symm HW2.out
  have HV := Lib.hid hv
  have g := neBf hv
  have HPL := Lib.hid (pl_of hv)
  have hsm : es.length ≤ 60 := (val_zero.1 hv).len
  have hn60 : n ≤ 60 := by omega
  clear hv
  by_cases hp : 0 ≤ p ∧ p ≤ 2 ∧ right t = true
  case neg =>
    have HV1 : Hid (addE es p t = 1) := Lib.hid (by
      unfold addE
      rw [if_neg (fun h => h HV.out), if_pos]
      cases hr : right t
      · exact .inr (.inr rfl)
      · rw [hr] at hp
        simp at hp
        omega)
    have HV2 : Hid (addL' es p t = []) := Lib.hid (by unfold addL'; rw [HV1.out]; rfl)
    have hc : p < 0 ∨ (0 ≤ p ∧ (2 < p ∨ (p ≤ 2 ∧ right t = false))) := by
      rcases Int.lt_or_le p 0 with h1 | h1
      · exact .inl h1
      rcases Int.lt_or_le 2 p with h2 | h2
      · exact .inr ⟨h1, .inl h2⟩
      refine .inr ⟨h1, .inr ⟨h2, ?_⟩⟩
      cases hr : right t
      · rfl
      · exact (hp ⟨h1, h2, hr⟩).elim
    clear hp
    rcases hc with h1 | ⟨h1, h2 | ⟨h2, h3⟩⟩
    · go_wp2_with fail
      go_ret2
      rw [HV2.out]
      exact RetE.nil HV1.out.symm HW2.out
    · go_wp2_with fail
      go_ret2
      rw [HV2.out]
      exact RetE.nil HV1.out.symm HW2.out
    · have H3 := Lib.hid h3
      clear h3
      go_wp2_with fail
      with_reducible refine (rightText_any t _ hs).mono ?_
      rintro _ w3 ⟨rfl, hb3⟩
      have HW3 := Lib.hid (below_trans' HW2.out hb3)
      rw [H3.out]
      clear hb3
      go_wp2_with fail
      go_ret2
      rw [HV2.out]
      exact RetE.nil HV1.out.symm HW3.out
  obtain ⟨p0, p1, hr⟩ := hp
  obtain ⟨k, rfl⟩ := Int.eq_ofNat_of_zero_le p0
  have HR := Lib.hid hr
  clear hr
  go_wp2_with fail
  with_reducible refine (rightText_any t _ hs).mono ?_
  rintro _ w3 ⟨rfl, hb3⟩
  have HW3 := Lib.hid (below_trans' HW2.out hb3)
  rw [HR.out]
  clear hb3
  by_cases h60 : n = 60
  · have HV1 : Hid (addE es k t = 4) := Lib.hid (by
      unfold addE
      rw [if_neg (fun h => h HV.out), if_neg (by rw [HR.out]; simp; omega), if_pos (by omega)])
    have HV2 : Hid (addL' es k t = []) := Lib.hid (by unfold addL'; rw [HV1.out]; rfl)
    have g60 : ((n : Int) == 60) = true := by simp; omega
    clear h60
    go_wp2_with fail
    go_ret2
    rw [HV2.out]
    exact RetE.nil HV1.out.symm HW3.out
  have HV1 : Hid (addE es k t = 0) := Lib.hid (addE_zero.2 ⟨val_zero.1 HV.out, p0, p1, HR.out, by omega⟩)
  have HV2 : Hid (addL' es k t = addR es k t) := Lib.hid (if_pos HV1.out)
  have HAL := Lib.hid (addR_length (val_zero.1 HV.out) p0 p1 (t := t))
  have g60 : ((n : Int) == 60) = false := by simp; omega
  have hn59 : n < 60 := by omega
  clear h60
  go_wp2_with fail
  with_reducible refine (clock_any A n c es _ (HL.out.on HW3.out) hn HPL.out).mono ?_
  rintro _ w4 ⟨rfl, hb4⟩
  go_wp2_with fail
  have hk3 : k < 3 := by omega
  refine wp_gen (fun W => Box W w4.heap.size #[.int .i64 (clk es 0 : Nat), .int .i64 (clk es 1 : Nat), .int .i64 (clk es 2 : Nat)] ∧ Below w.heap.size w W) ⟨Box.new _ _ _, below_trans' (below_trans' HW3.out hb4) (belowA _ _)⟩ ?_
  rintro w5 ⟨b5, hw5⟩
  have HW5 := Lib.hid hw5
  generalize w4.heap.size = bs at b5 ⊢
  clear hb4 hw5
  have ck := clk_cell b5 hk3
  have cl := clk_le es k
  have ck60 : clk es k ≤ 60 := by omega
  have hnk : (0 : Int) ≤ (clk es k : Nat) := by omega
  clear ck cl
  have Z := fun w => ix35z bs k hk3 w
  have vk : IntKind.i64.wrap ((clk es k : Nat) + 1) = (clk es k : Nat) + 1 := IntWalk.i64_in _ (by omega)
  refine wp_region_hu [0, 2, 3, 4, 5, 6, 7, 8, 9] [1, 10, 11, 12] (fun W => Clk4 es bs k W) mixed (by kernel_rfl) ((Clk4.of b5 hk3).drew) ?_
  repeat
    refine canonH_step (v := ?_) rfl (by rfl) ?_ ?_
    rotate_left
    · intro w hSw
      obtain ⟨s1_, s2_, s3_, s4_⟩ := hSw
      go_simp <;> with_reducible rfl
    simp only [List.getElem_toArray, List.getElem_cons_zero, List.getElem_cons_succ, Act.put, List.setIfInBounds_toArray, List.set_cons_succ, List.set_cons_zero]
  refine canonH_nil ?_
  have hD : Below w5.drew.heap.size w5.drew w5.drew := Below.refl _ _
  have HCLK := Lib.hid ((Clk4.of b5 hk3).drew)
  have HLD := Lib.hid ((HL.out.on HW5.out).drew)
  have hbs : bs < w5.drew.heap.size := b5.1
  have HW5D := Lib.hid (below_drewN' HW5.out 1)
  obtain ⟨q, hq⟩ : ∃ q, q = w5.drew.heap.size := ⟨_, rfl⟩
  have hbq : bs < q := by omega
  have hwq : w.heap.size ≤ q := Nat.le_trans HW5D.out.size (Nat.le_of_eq hq.symm)
  have HQ := Lib.hid hq
  clear hq
  refine tailA_two (t := 1) (t' := 10) (ts1 := [10, 11, 12]) (ts2 := [1, 11, 12]) (by kernel_rfl) rfl rfl rfl rfl ?_ ?_
  · go_wp2_with fail
    with_reducible refine (clone_any A n c es _ HLD.out hn).mono ?_
    rintro _ w6 ⟨B, d, rfl, hr6, hb6⟩
    have HR6 := Lib.hid hr6
    have HB6 := Lib.hid hb6
    clear hr6 hb6
    go_wp2_with fail
    refine ⟨HCLK.out.below hbs HB6.out, ?_⟩
    refine tailA_one (t := 10) (ts' := [11, 12]) (by kernel_rfl) rfl rfl ?_
    go_wp2_with fail
    refine gen_at (fun W => Clk4 es bs k W ∧ W.ownsRow q 48 6 (.slice B n d) n (ents es) ∧ Reads W W.heap.size 6 (some ⟨w6.heap.size, 0, none⟩) 1 (ents [newE es k t]) ∧ Below w.heap.size w W ∧ q ≤ W.heap.size) ⟨(HCLK.out.below hbs HB6.out).below (Nat.lt_of_lt_of_le hbs HB6.out.size) (belowA _ _), row_on (row_mono HR6.out (Nat.le_of_eq HQ.out)) (belowA _ _), reads_new w6 (ents [newE es k t]) 48 6 1 rfl, below_trans' (below_trans' HW5D.out HB6.out) (belowA _ _), by have := HB6.out.size; have := HQ.out; rw [World.size_alloc]; omega⟩ ?_
    generalize w6.heap.size = bN
    clear HR6 HB6 w6
    rintro w7 ⟨hc7, hr7, he7, hb7, hq7⟩
    have HC7 := Lib.hid hc7
    have HR7 := Lib.hid hr7
    have HE7 := Lib.hid he7
    have HB7 := Lib.hid hb7
    clear hc7 hr7 he7 hb7
    refine ⟨HC7.out, ?_⟩
    refine tailA_one (t := 11) (ts' := [12]) (by kernel_rfl) rfl rfl ?_
    refine wpList_pushXn rfl _ _ 23 48 rfl Tryz.underlying23 info53b rfl (Nat.succ_pos _) (by decide) q _ B n d (ents es) _ 1 1 (ents [newE es k t]) rfl HR7.out hq7 rfl HE7.out (fun h => by cases h) (ents_one _) (by omega) ?_
    intro A' c' w8 hr8 hg8 _
    rw [← ents_append] at hr8
    have HR8 := Lib.hid hr8
    have HC8 := Lib.hid (HC7.out)
    have HB8 := Lib.hid (HB7.out.grown hg8 HB7.out.size fun k hk => Nat.le_trans hwq (HR7.out.lt k hk).1)
    clear hr8
    have hC9 : Clk4 es bs k w8 := HC7.out.grown (Nat.lt_of_lt_of_le hbq hq7) hg8 fun j hj e => by have := (HR7.out.lt j hj).1; omega
    have HC9 := Lib.hid hC9
    clear hC9 hg8
    go_wp2_with fail
    refine ⟨HC9.out, ?_⟩
    refine tailA_last (t := 12) (by kernel_rfl) rfl ?_
    go_wp2_with fail
    refine NoPanic.normal ?_
    go_wp2_with fail
    with_reducible refine (sort_any (bl := q) A' (n + 1) c' (es ++ [newE es k t]) _ HR8.out (by omega)).mono ?_
    rintro _ w9 ⟨rfl, es', hp, hsort, hr9, hg9⟩
    have HSRT := Lib.hid (add_sort (val_zero.1 HV.out) p0 p1 hp hsort)
    have HR9 := Lib.hid hr9
    have HB9 := Lib.hid (HB8.out.grown hg9 HB8.out.size fun k hk => Nat.le_trans hwq (HR8.out.lt k hk).1)
    clear hp hsort hr9 hg9
    go_wp2_with fail
    go_ret2
    rw [HV2.out, HV1.out]
    refine ⟨A', c', ?_, ?_, HB9.out⟩
    · rw [HAL.out, show n = es.length by omega]; rfl
    · have := row_mono HR9.out hwq
      rw [HSRT.out] at this
      rwa [HAL.out, show es.length = n by omega]
  · go_wp2_with fail
    refine gen_at (fun W => Clk4 es bs k W ∧ Reads W W.heap.size 6 (some ⟨w5.heap.size, 0, none⟩) 1 (ents [newE es k t]) ∧ Below w5.drew.heap.size w5.drew W) ⟨(HCLK.out.below hbs (belowA _ _)), reads_new w5.drew (ents [newE es k t]) 48 6 1 rfl, belowA _ _⟩ ?_
    generalize w5.heap.size = bN
    rintro w6 ⟨hc6, he6, hb6⟩
    have HC6 := Lib.hid hc6
    have HE6 := Lib.hid he6
    have HB6 := Lib.hid hb6
    have HL6 := Lib.hid (HLD.out.on hb6)
    have hbs6 : bs < w6.heap.size := Nat.lt_of_lt_of_le hbs hb6.size
    clear hc6 he6 hb6
    refine ⟨HC6.out, ?_⟩
    refine tailA_one (t := 1) (ts' := [11, 12]) (by kernel_rfl) rfl rfl ?_
    go_wp2_with fail
    with_reducible refine (clone_any A n c es _ HL6.out hn).mono ?_
    rintro _ w7 ⟨B, d, rfl, hr7, hb7⟩
    have HC7 := Lib.hid (HC6.out.below hbs6 hb7)
    have HR7 := Lib.hid (row_mono hr7 (Nat.le_trans (Nat.le_of_eq HQ.out) HB6.out.size))
    have HE7 := Lib.hid (HE6.out.on hb7)
    have HB7 := Lib.hid (below_trans' (below_trans' HW5D.out HB6.out) hb7)
    have hq7 : q ≤ w7.heap.size := by have := HB6.out.size; have := hb7.size; have := HQ.out; omega
    clear hr7 hb7
    go_wp2_with fail
    refine ⟨HC7.out, ?_⟩
    refine tailA_one (t := 11) (ts' := [12]) (by kernel_rfl) rfl rfl ?_
    refine wpList_pushXn rfl _ _ 23 48 rfl Tryz.underlying23 info53b rfl (Nat.succ_pos _) (by decide) q _ B n d (ents es) _ 1 1 (ents [newE es k t]) rfl HR7.out hq7 rfl HE7.out (fun h => by cases h) (ents_one _) (by omega) ?_
    intro A' c' w8 hr8 hg8 _
    rw [← ents_append] at hr8
    have HR8 := Lib.hid hr8
    have HC8 := Lib.hid (HC7.out)
    have HB8 := Lib.hid (HB7.out.grown hg8 HB7.out.size fun k hk => Nat.le_trans hwq (HR7.out.lt k hk).1)
    clear hr8
    have hC9 : Clk4 es bs k w8 := HC7.out.grown (Nat.lt_of_lt_of_le hbq hq7) hg8 fun j hj e => by have := (HR7.out.lt j hj).1; omega
    have HC9 := Lib.hid hC9
    clear hC9 hg8
    go_wp2_with fail
    refine ⟨HC9.out, ?_⟩
    refine tailA_last (t := 12) (by kernel_rfl) rfl ?_
    go_wp2_with fail
    refine NoPanic.normal ?_
    go_wp2_with fail
    with_reducible refine (sort_any (bl := q) A' (n + 1) c' (es ++ [newE es k t]) _ HR8.out (by omega)).mono ?_
    rintro _ w9 ⟨rfl, es', hp, hsort, hr9, hg9⟩
    have HSRT := Lib.hid (add_sort (val_zero.1 HV.out) p0 p1 hp hsort)
    have HR9 := Lib.hid hr9
    have HB9 := Lib.hid (HB8.out.grown hg9 HB8.out.size fun k hk => Nat.le_trans hwq (HR8.out.lt k hk).1)
    clear hp hsort hr9 hg9
    go_wp2_with fail
    go_ret2
    rw [HV2.out, HV1.out]
    refine ⟨A', c', ?_, ?_, HB9.out⟩
    · rw [HAL.out, show n = es.length by omega]; rfl
    · have := row_mono HR9.out hwq
      rw [HSRT.out] at this
      rwa [HAL.out, show es.length = n by omega]
end Go.Proofs.YtnlhllleipemlaaGreatDoor

namespace Go.Proofs.YtnlhllleipemlaaGreatDoor
open Go.RowKit Go.Sort

section
variable {P : Program} {ops : Array Oper} {md : Region.Mode} {C : World → Prop}
def wpAnyT (P : Program) (md : Region.Mode) (ops : Array Oper) (C : World → Prop) (n : Nat) (L : Array Bool → Act → Prop) : Nat → Array Bool → Act → Prop
  | 0, listed, a => L listed a
  | f + 1, listed, a =>
    Region.ready md ops listed ≠ [] ∧ ∀ i ∈ Region.ready md ops listed, i < n ∧ qOp P ops C i (wpAnyT P md ops C n L f (listed.setIfInBounds i true)) a
theorem wpAny_of_headT {n g : Nat} {L : Array Bool → Act → Prop} {Q' : Exit → Act → World → Prop} (hL : ∀ listed a w, C w → L listed a → wpAny P md ops Q' g listed a w) :
    ∀ (f : Nat) (listed : Array Bool) (a : Act) (w : World), C w → wpAnyT P md ops C n L f listed a → wpAny P md ops Q' (f + g) listed a w
  | 0, listed, a, w, hw, h => by rw [Nat.zero_add]; exact hL _ _ _ hw h
  | f + 1, listed, a, w, hw, h => by
    rw [show f + 1 + g = (f + g) + 1 by omega]
    exact ⟨fun h0 => absurd h0 h.1, fun i hi => wpOp_of_qOp hw (fun a' w' hw' h' => wpAny_of_headT hL f _ a' w' hw' h') (h.2 i hi).2⟩
theorem wpAnyT_first {n i : Nat} {oi : Oper} {v : Value} {L : Array Bool → Act → Prop} (hi : ops[i]? = some oi) (hsel : ∀ (j : Nat) (o : Oper) cs b, ops[j]? = some o → o.op ≠ .select cs b)
    (hs : Region.sinkB md ops n = true) (hc : Region.chainB md ops n = true) (hn : n < ops.size) (hin : i < n)
    (hdone : ∀ listed a, L listed a → ∀ j ∈ Region.ready md ops listed, n ≤ j) :
    ∀ (f : Nat) (listed : Array Bool) (a : Act), HeadInv md ops n listed →
      (∀ j oj, ops[j]? = some oj → j ≠ i → listed.getD j true = false → (∀ e ∈ oj.after, Region.binds md e = true → e.on ≠ i) → oi.apart ops oj = true) →
      i ∈ Region.ready md ops listed → YieldsIn P ops C oi v a →
      wpAnyT P md ops C n L f (listed.setIfInBounds i true) (a.put oi.dst v) → wpAnyT P md ops C n L (f + 1) listed a := by
  intro f
  induction f with
  | zero =>
    intro listed a inv _ hr hy H
    have hun := (mem_ready.1 hr).1
    refine ⟨fun h => (by rw [h] at hr; cases hr), fun j hj => ?_⟩
    have hjn : j < n := by
      rcases Nat.lt_or_ge j n with h | h
      · exact h
      · exact absurd hj (tail_waits hs hc hn inv _ i rfl hin hun j h)
    refine ⟨hjn, ?_⟩
    by_cases hji : j = i
    · subst hji; exact hy.qOp hi H
    · have := hdone _ _ H j (ready_mono hj hji)
      omega
  | succ f ih =>
    intro listed a inv hfree hr hy H
    have hun := (mem_ready.1 hr).1
    refine ⟨fun h => (by rw [h] at hr; cases hr), fun j hj => ?_⟩
    have hjn : j < n := by
      rcases Nat.lt_or_ge j n with h | h
      · exact h
      · exact absurd hj (tail_waits hs hc hn inv _ i rfl hin hun j h)
    refine ⟨hjn, ?_⟩
    by_cases hji : j = i
    · subst hji; exact hy.qOp hi H
    · have h1 := (H.2 j (ready_mono hj hji)).2
      obtain ⟨hjun, oj, hoj, hall⟩ := mem_ready.1 hj
      have hnot : ∀ e ∈ oj.after, Region.binds md e = true → e.on ≠ i := fun e he hb heq => by
        have h1 := hall e he hb
        rw [heq, getD_both hun] at h1
        cases h1
      have h2 := qOp_put hoj (hfree j oj hoj hji hjun hnot) (fun cs b => hsel i oi cs b hi) (fun cs b => hsel j oj cs b hoj) hy h1
      have hfree' : ∀ k ok, ops[k]? = some ok → k ≠ i → (listed.setIfInBounds j true).getD k true = false →
          (∀ e ∈ ok.after, Region.binds md e = true → e.on ≠ i) → oi.apart ops ok = true := fun k ok hk hki hun hno => by
        refine hfree k ok hk hki ?_ hno
        by_cases hjk : j = k
        · subst hjk; exact hjun
        · rw [getD_set_ne true hjk] at hun; exact hun
      refine qOp_mono (fun a' h3 => ih (listed.setIfInBounds j true) a' (inv.set hj hjn) hfree' (ready_mono hr (Ne.symm hji)) h3.1 ?_) h2
      rw [Array.setIfInBounds_comm _ _ hji]
      exact h3.2
theorem wpAnyT_lex {n g : Nat} {Lq : Act → Prop} (hsel : Region.noSelect ops = true) (hs : Region.sinkB md ops n = true) (hc : Region.chainB md ops n = true) (hn : n < ops.size) :
    ∀ (l : List Oper) (k : Nat) (listed : Array Bool) (a : Act), (∀ j, j < l.length → l[j]? = ops[k + j]?) → k + l.length = n → HeadInv md ops n listed →
    Region.lexHead md ops g l.length k listed = true → wpQuiet P ops C Lq l a →
    wpAnyT P md ops C n (fun listed' a' => Region.seqB md ops g n listed' = true ∧ Lq a') l.length listed a
  | [], k, listed, a, _, hk, _, hB, h => by
    have : k = n := by simpa using hk
    subst this
    exact ⟨by simpa [Region.lexHead] using hB, h⟩
  | o :: l, k, listed, a, hl, hk, inv, hB, h => by
    have h0 : ops[k]? = some o := by simpa using (hl 0 (by simp)).symm
    simp only [List.length_cons, Region.lexHead, Bool.and_eq_true] at hB
    obtain ⟨⟨hr, hf⟩, hB'⟩ := hB
    have hkn : k < n := by simp only [List.length_cons] at hk; omega
    have hr' : k ∈ Region.ready md ops listed := by simpa using hr
    have hst : qOp P ops C k (wpQuiet P ops C Lq l) a := by unfold qOp; simp only [h0]; exact h
    obtain ⟨v, hy, hK⟩ := yieldsIn_of_qOp h0 hst
    exact wpAnyT_first h0 (Region.noSelect_spec hsel) hs hc hn hkn (fun listed' a' hL => seqB_ready hL.1) l.length listed a inv (Region.free_spec h0 hf) hr' hy
      (wpAnyT_lex hsel hs hc hn l (k + 1) _ _ (fun j hj => by have := hl (j + 1) (by simp; omega); simpa [Nat.add_assoc, Nat.add_comm 1 j] using this) (by simp only [List.length_cons] at hk; omega) (inv.set hr' hkn) hB' hK)
theorem wp_region_quiet_tail {id : Nat} {Q : Exit → Act → World → Prop} {a : Act} {w : World} {l : List Oper} (n : Nat) (hm : P.follows .mixedOrders = true) (hB : Region.lexTailB .any l.toArray n = true) (hC : C { w with drawn := w.drawn + 1 })
    (h : wpQuiet P l.toArray C (fun a' => ∀ w', C w' → wpList P l.toArray Q (l.drop n) a' w') (l.take n) a) : (Code.region id l.toArray true).wp P Q a w := by
  simp only [Region.lexTailB, Bool.and_eq_true, decide_eq_true_eq] at hB
  obtain ⟨⟨⟨⟨hsel, hn⟩, hs⟩, hc⟩, hlex⟩ := hB
  have hn' : n < l.length := by simpa using hn
  have htl : (l.take n).length = n := by simp; omega
  have hdl : (l.drop n).length = l.toArray.size - n := by simp
  have inv0 : HeadInv .any l.toArray n (Array.replicate l.toArray.size false) :=
    ⟨by simp, fun j oj _ hl => (by rw [getD_replicate_false] at hl; cases hl), fun t _ ht => getD_in (by simpa using ht) (getD_replicate_false _ _)⟩
  have H := wpAnyT_lex (C := C) (md := .any) (g := l.toArray.size - n) hsel hs hc hn (l.take n) 0 _ a (fun j hj => by
    have hj' : j < n := by rw [htl] at hj; exact hj
    simp [hj']) (by simpa using htl) inv0 (by rw [htl]; exact hlex) h
  refine wp_region_any hm ?_
  have := wpAny_of_headT (Q' := Q) (g := l.toArray.size - n) (fun listed a' w' hw' hL => by
    have := wpAny_of_seq (md := .any) (Q' := Q) (l.drop n) n listed a' w' (fun j => by simp [List.getElem?_drop]) (by rw [hdl]; exact hL.1) (hL.2 w' hw')
    rwa [hdl] at this) _ _ _ _ hC H
  rw [htl, show n + (l.toArray.size - n) = l.toArray.size by omega] at this
  exact this
theorem wpQuiet_mono {Q Q' : Act → Prop} (hq : ∀ a, Q a → Q' a) : ∀ (l : List Oper) (a : Act), wpQuiet P ops C Q l a → wpQuiet P ops C Q' l a := by
  intro l
  induction l with
  | nil => intro a h; exact hq a h
  | cons o l ih =>
    intro a h
    unfold wpQuiet at h ⊢
    split
    · rename_i hw
      rw [if_pos hw] at h
      exact Oper.quiet_mono (fun a hh => ih a hh) h
    · rename_i hw
      rw [if_neg hw] at h
      exact ih _ h
/-- At the class of the worlds that have only grown. -/
theorem wp_region_qt {id : Nat} {Q : Exit → Act → World → Prop} {a : Act} {w : World} {l : List Oper} (n : Nat) (hm : P.follows .mixedOrders = true) (hB : Region.lexTailB .any l.toArray n = true)
    (h : wpQuiet P l.toArray (fun w' => ∃ p : Regrown, w' = grow (redrawn w p.d) p.os) (fun a' => ∀ w', Below w.heap.size w w' → wpList P l.toArray Q (l.drop n) a' w') (l.take n) a) : (Code.region id l.toArray true).wp P Q a w := by
  refine wp_region_quiet_tail (C := fun w' => ∃ p : Regrown, w' = grow (redrawn w p.d) p.os) n hm hB ⟨⟨w.drawn + 1, #[]⟩, by rw [grow_empty]; rfl⟩ ?_
  exact wpQuiet_mono (fun a' h w' ⟨p, hp⟩ => h w' (hp ▸ below_regrown w p.d p.os)) _ _ h
end
end Go.Proofs.YtnlhllleipemlaaGreatDoor

namespace Go.Proofs.YtnlhllleipemlaaGreatDoor
open Go.RowKit Go.Sort

theorem ecells_one (e : Ent) : ∀ u ∈ ecells e, u.oneCell' = true := by
  have := ents_one [e]
  simpa [ents] using this
theorem ents_snoc (l : List Ent) (e : Ent) : ents (l ++ [e]) = ents l ++ ecells e := by simp [ents]
theorem len_snoc {α : Type} (l : List α) (e : α) : (l ++ [e]).length = l.length + 1 := by simp
theorem fl_yes {es : List Ent} {k : Nat} {e : Ent} (f : Ent → Bool) (h : es.take (k + 1) = es.take k ++ [e]) (hf : f e = true) : (es.take (k + 1)).filter f = (es.take k).filter f ++ [e] := by
  rw [h, List.filter_append]; simp [hf]
theorem fl_no {es : List Ent} {k : Nat} {e : Ent} (f : Ent → Bool) (h : es.take (k + 1) = es.take k ++ [e]) (hf : f e = false) : (es.take (k + 1)).filter f = (es.take k).filter f := by
  rw [h, List.filter_append]; simp [hf]
theorem fl_le (es : List Ent) (k : Nat) (f : Ent → Bool) : ((es.take k).filter f).length ≤ k := by
  have := List.length_filter_le f (es.take k)
  have := List.length_take_le k es
  omega
/-- Collecting entries: what the slot holds behind k rounds. -/
def Coll (w0 : World) (es : List Ent) (f : Ent → Bool) (k : Nat) (w : World) (v : Value) : Prop := OwnX 48 6 w0 w v ((es.take k).filter f).length (ents ((es.take k).filter f))
section
variable {w0 w w' : World} {es : List Ent} {f : Ent → Bool} {k : Nat} {v : Value} {e : Ent}
theorem Coll.nil : Coll w es f 0 w (.slice none 0 0) := by
  unfold Coll
  simp only [List.take_zero, List.filter_nil]
  exact OwnX.nil _ _ _
theorem Coll.nil' (hb : Below w0.heap.size w0 w) : Coll w0 es f 0 w (.slice none 0 0) := by
  unfold Coll
  simp only [List.take_zero, List.filter_nil]
  exact ⟨World.ownsRow_nil _ _ _ _, hb⟩
theorem Coll.on (h : Coll w0 es f k w v) (hb : Below w.heap.size w w') : Coll w0 es f k w' v := OwnX.on h hb
theorem Coll.own (h : Coll w0 es f k w v) : OwnX 48 6 w0 w v ((es.take k).filter f).length (ents ((es.take k).filter f)) := h
theorem Coll.bel (h : Coll w0 es f k w v) : Below w0.heap.size w0 w := OwnX.bel h
theorem Coll.yes (hT : es.take (k + 1) = es.take k ++ [e]) (hf : f e = true) (h : OwnX 48 6 w0 w v (((es.take k).filter f).length + 1) (ents ((es.take k).filter f) ++ ecells e)) : Coll w0 es f (k + 1) w v := by
  unfold Coll
  rw [fl_yes f hT hf, ents_snoc, len_snoc]
  exact h
theorem Coll.no (hT : es.take (k + 1) = es.take k ++ [e]) (hf : f e = false) (h : Coll w0 es f k w v) : Coll w0 es f (k + 1) w v := by
  unfold Coll
  rw [fl_no f hT hf]
  exact h
theorem Coll.all (h : Coll w0 es f k w v) (hk : es.length ≤ k) : ∃ B d, v = .slice B (es.filter f).length d ∧ w.ownsRow w0.heap.size 48 6 (.slice B (es.filter f).length d) (es.filter f).length (ents (es.filter f)) ∧ Below w0.heap.size w0 w := by
  unfold Coll at h
  rw [List.take_of_length_le hk] at h
  obtain ⟨B, d, hv, _⟩ := h.form
  subst hv
  exact ⟨B, d, rfl, h.row, h.bel⟩
end
set_option maxRecDepth 100000 in
theorem index_any (A : Option Addr) (n c : Nat) (es : List Ent) (e : Ent) (w : World) (hl : Reads w w.heap.size 6 A n (ents es)) (hn : n ≤ 1000000) :
    Calls Tryz.prog 89 #[.slice A n c, eval_ e] w fun r w' => (∃ i : Int, r = .returned (.int .i64 i) ∧ (0 ≤ i ↔ e ∈ es)) ∧ Below w.heap.size w w' := by
  have hlen0 := hl.1
  rw [ents_length] at hlen0
  have l1 : n ≤ es.length := by omega
  have l2 : es.length ≤ n := by omega
  have HL := Lib.hid hl
  clear hl hlen0
  go_enter Tryz.func89, Tryz.ntmps89
  dsimp only [eval_]
  go_wp2_with fail
  go_loopw [8] (fun i wr => ∃ k : Nat, k ≤ n ∧ i = .int .i64 k ∧ e ∉ es.take k ∧ Box wr w.heap.size #[.int .i64 e.1, .int .i64 e.2.1, .int .i64 e.2.2.1.1, .int .i64 e.2.2.1.2.1, .int .i64 e.2.2.1.2.2, .string e.2.2.2] ∧ Below w.heap.size w wr) (fun i _ => n - (intOf i).toNat)
  case atStart => exact ⟨0, by omega, rfl, by simp, Box.new _ _ _, belowA _ _⟩
  case round =>
    obtain ⟨k, hk, rfl, hno, bx, hbw⟩ := hrel
    have HNO := Lib.hid hno
    have HBW := Lib.hid hbw
    clear hno hbw
    by_cases hlt : k < n
    · obtain ⟨ad, x, e1, hbk, hx, d0, d1, d2, d3, d4, d5⟩ := eat (HL.out.on HBW.out) (k := k) (by omega)
      have X := fun w => ix22 (c := c) e1 hlt w
      have HT := Lib.hid (take_succ_of hx)
      have HM := Lib.hid (List.mem_of_getElem? hx)
      have q1 := eqg53 .eql
      have q2 := eql53 e x
      have cx := bx.at
      clear hx e1
      by_cases hxe : x = e
      · have HF : Hid (e ∈ es) := Lib.hid (hxe ▸ HM.out)
        rw [eqN_iff.2 hxe.symm] at q2
        clear hxe
        go_wp2_with fail
        go_quiet (fail)
        go_wp2_with fail
        go_ret
        exact ⟨⟨k, rfl, ⟨fun _ => HF.out, fun _ => by omega⟩⟩, below_drewN' HBW.out _⟩
      · have HN2 : Hid (e ∉ es.take (k + 1)) := Lib.hid (by
          rw [HT.out]
          intro h
          rcases List.mem_append.1 h with h | h
          · exact HNO.out h
          · exact hxe (List.mem_singleton.1 h).symm)
        rw [eqN_not.2 (Ne.symm hxe)] at q2
        clear hxe
        go_wp2_with fail
        go_quiet (fail)
        go_wp2_with fail
        clear cx
        go_roundw
        case rel => exact ⟨k + 1, by omega, by go_num, HN2.out, bx, below_drewN' HBW.out _⟩
        case measure => simp [intOf]; omega
    · have HF : Hid (e ∉ es) := Lib.hid (by have := HNO.out; rwa [List.take_of_length_le (by omega)] at this)
      go_wp2_with fail
      go_ret
      exact ⟨⟨-1, rfl, ⟨fun h => by omega, fun h => absurd h HF.out⟩⟩, HBW.out⟩
theorem contains_any (A : Option Addr) (n c : Nat) (es : List Ent) (e : Ent) (w : World) (hl : Reads w w.heap.size 6 A n (ents es)) (hn : n ≤ 1000000) :
    Calls Tryz.prog 62 #[.slice A n c, eval_ e] w fun r w' => r = .returned (.bool (decide (e ∈ es))) ∧ Below w.heap.size w w' := by
  have HL := Lib.hid hl
  clear hl
  go_enter Tryz.func62, Tryz.ntmps62
  dsimp only [eval_]
  have cx := fun o => (Box.new w #[.int .i64 e.1, .int .i64 e.2.1, .int .i64 e.2.2.1.1, .int .i64 e.2.2.1.2.1, .int .i64 e.2.2.1.2.2, .string e.2.2.2] o).at
  go_wp2_with fail
  with_reducible refine (index_any A n c es e _ (HL.out.on (belowA _ _)) hn).mono ?_
  rintro _ w2 ⟨⟨i, rfl, hi⟩, hb2⟩
  have HI := Lib.hid hi
  have HB := Lib.hid (below1 _ hb2)
  clear hi hb2 cx
  go_wp2_with fail
  go_ret
  refine ⟨ret_bool ?_, HB.out⟩
  rw [decide_eq_decide]
  exact HI.out
end Go.Proofs.YtnlhllleipemlaaGreatDoor

namespace Go.Proofs.YtnlhllleipemlaaGreatDoor
open Go.RowKit Go.Sort

def partE (e f : Ent) : Prop := e.1 = f.1 ∧ e.2.1 = f.2.1 ∧ e ≠ f
instance (e f : Ent) : Decidable (partE e f) := by unfold partE; infer_instance
def noP1 (e : Ent) (l : List Ent) : Prop := ∀ f ∈ l, ¬ partE e f
def noP2 (l fs : List Ent) : Prop := ∀ e ∈ l, noP1 e fs
theorem noPart_iff {a b : List Ent} : noPart a b ↔ noP2 a b := by
  unfold noPart noP2 noP1 partE
  constructor
  · intro h e he f hf ⟨h1, h2, h3⟩
    exact h3 (h e he f hf h1 h2)
  · intro h e he f hf h1 h2
    exact Classical.byContradiction fun h3 => h e he f hf ⟨h1, h2, h3⟩
theorem val2_bad1 {a b : List Ent} (h : val a ≠ 0) : val2 a b = val a := if_pos h
theorem val2_bad2 {a b : List Ent} (h : val a = 0) (h2 : val b ≠ 0) : val2 a b = val b := by unfold val2; rw [if_neg (fun h' => h' h), if_pos h2]
theorem val2_part {a b : List Ent} (h : val a = 0) (h2 : val b = 0) {e f : Ent} (he : e ∈ a) (hf : f ∈ b) (hp : partE e f) : val2 a b = 12 := by
  unfold val2
  rw [if_neg (fun h' => h' h), if_neg (fun h' => h' h2), if_neg]
  exact fun hn => noPart_iff.1 hn e he f hf hp
theorem val2_ok {a b : List Ent} (h : val a = 0) (h2 : val b = 0) (hn : noP2 a b) : val2 a b = 0 := by
  unfold val2
  rw [if_neg (fun h' => h' h), if_neg (fun h' => h' h2), if_pos (noPart_iff.2 hn)]
set_option maxRecDepth 4000 in
/-- Append of what a slice reads onto the call's own row. -/
theorem wpList_pushO {ops : Array Oper} {rest : List Oper} {o : Oper} {a : Act} {Q : Exit → Act → World → Prop} (hgd : o.guard = none) (s x : Operand)
    (ho : o.op = .call { callee := .builtin .append, args := #[s, x], argTypes := #[23, 23] })
    (w0 w : World) (A : Option Addr) (n c : Nat) (xs : List Value) (X : Option Addr) (m cc : Nat) (news : List Ent) (hs : a.eval s = .slice A n c) (hown : OwnX 48 6 w0 w (.slice A n c) n xs)
    (hx : a.eval x = .slice X m cc) (hr : Reads w w.heap.size 6 X m (ents news)) (hlen : n + m ≤ 1000000000)
    (h : ∀ A' c' w', OwnX 48 6 w0 w' (.slice A' (n + m) c') (n + m) (xs ++ ents news) → wpList Tryz.prog ops Q rest (a.put o.dst (.slice A' (n + m) c')) w') :
    wpList Tryz.prog ops Q (o :: rest) a w :=
  wpList_pushXm hgd s x 23 48 ho Tryz.underlying23 info53b rfl (by omega) (by omega) w0.heap.size w A n c xs X m cc (ents news) hs hown.row hown.bel.size hx hr (ents_one _) hlen
    fun A' c' w' h1 h2 _ => h A' c' w' ⟨h1, hown.bel.grown h2 hown.bel.size fun k hk => (hown.row.lt k hk).1⟩
/-- What the slot holds: a slice of the call's own with these entries. -/
def Held (w0 : World) (l : List Ent) (w : World) (v : Value) : Prop := ∃ A c, v = .slice A l.length c ∧ OwnX 48 6 w0 w (.slice A l.length c) l.length (ents l)
theorem Held.on {w0 w w' : World} {l : List Ent} {v : Value} (h : Held w0 l w v) (hb : Below w.heap.size w w') : Held w0 l w' v := by
  obtain ⟨A, c, hv, ho⟩ := h
  exact ⟨A, c, hv, ho.on hb⟩
theorem Held.nil {w0 w : World} (hb : Below w0.heap.size w0 w) : Held w0 [] w (.slice none 0 0) := ⟨none, 0, rfl, World.ownsRow_nil _ _ _ _, hb⟩
theorem Held.bel {w0 w : World} {l : List Ent} {v : Value} (h : Held w0 l w v) : Below w0.heap.size w0 w := by obtain ⟨_, _, _, ho⟩ := h; exact ho.bel
theorem Held.of {w0 w : World} {l l' : List Ent} {A : Option Addr} {n c : Nat} (h : OwnX 48 6 w0 w (.slice A n c) n (ents l ++ ents l')) (hn : n = l.length + l'.length) : Held w0 (l ++ l') w (.slice A n c) := by
  have e : (l ++ l').length = n := by simp [hn]
  refine ⟨A, c, by rw [e], ?_⟩
  rw [e, ents_append]
  exact h
def mg (a b : List Ent) : Nat → List Ent
  | 0 => []
  | p + 1 => mg a b p ++ (ofP a p ++ ofP (wo b a false) p)
theorem mg_three (a b : List Ent) : mg a b 3 = mergeR a b := by
  show (([] ++ _) ++ _) ++ _ = _
  rw [List.nil_append]
  rfl
theorem ofP_le (c : List Ent) (p : Int) : (ofP c p).length ≤ c.length := List.length_filter_le _ _
theorem wo_le (a b : List Ent) (cm : Bool) : (wo a b cm).length ≤ a.length := List.length_filter_le _ _
theorem mg_le (a b : List Ent) (k : Nat) : (mg a b k).length ≤ k * (a.length + b.length) := by
  induction k with
  | zero => exact Nat.le_of_eq (by simp [mg])
  | succ k ih =>
    have h1 := ofP_le a k
    have h2 := ofP_le (wo b a false) k
    have h3 := wo_le b a false
    show (mg a b k ++ _).length ≤ _
    rw [List.length_append, List.length_append, Nat.add_mul, Nat.one_mul]
    omega
def mrgE (a b : List Ent) : Int := if val2 a b ≠ 0 then val2 a b else if 60 < (mergeR a b).length then 4 else 0
def mrgL (a b : List Ent) : List Ent := if mrgE a b = 0 then mergeR a b else []
theorem mrg_bad {a b : List Ent} (h : val2 a b ≠ 0) : mrgE a b = val2 a b ∧ mrgL a b = [] := by
  have h1 : mrgE a b = val2 a b := if_pos h
  exact ⟨h1, by unfold mrgL; rw [h1, if_neg h]⟩
theorem mrg_large {a b : List Ent} (h : val2 a b = 0) (h2 : 60 < (mergeR a b).length) : mrgE a b = 4 ∧ mrgL a b = [] := by
  have h1 : mrgE a b = 4 := by unfold mrgE; rw [if_neg (fun h' => h' h), if_pos h2]
  exact ⟨h1, by unfold mrgL; rw [h1]; rfl⟩
theorem mrg_ok {a b : List Ent} (h : val2 a b = 0) (h2 : ¬ 60 < (mergeR a b).length) : mrgE a b = 0 ∧ mrgL a b = mergeR a b := by
  have h1 : mrgE a b = 0 := by unfold mrgE; rw [if_neg (fun h' => h' h), if_neg h2]
  exact ⟨h1, by unfold mrgL; rw [if_pos h1]⟩
end Go.Proofs.YtnlhllleipemlaaGreatDoor

namespace Go.Proofs.YtnlhllleipemlaaGreatDoor
open Go.RowKit Go.Sort

set_option maxRecDepth 100000 in
theorem of_any (A : Option Addr) (n c : Nat) (es : List Ent) (p : Int) (w : World) (hl : Reads w w.heap.size 6 A n (ents es)) (hn : n ≤ 1000000) :
    Calls Tryz.prog 29 #[.slice A n c, .int .i64 p] w (RetRow 48 6 (ofP es p).length (ents (ofP es p)) w) := by
  have hlen0 := hl.1
  rw [ents_length] at hlen0
  have l1 : n ≤ es.length := by omega
  have l2 : es.length ≤ n := by omega
  have HL := Lib.hid hl
  clear hl hlen0
  go_enter Tryz.func29, Tryz.ntmps29
  go_wp2_with fail
  go_loopw [5, 6] (fun v i wr => ∃ k : Nat, k ≤ n ∧ i = .int .i64 k ∧ Coll w es (fun e => decide (e.1 = p)) k wr v) (fun _ i _ => n - (intOf i).toNat)
  case atStart => exact ⟨0, by omega, rfl, Coll.nil⟩
  case round =>
    obtain ⟨k, hk, rfl, hown⟩ := hrel
    have HOWN := Lib.hid hown
    clear hown
    by_cases hlt : k < n
    · obtain ⟨ad, e, e1, hbk, he, d0, d1, d2, d3, d4, d5⟩ := eat (HL.out.on HOWN.out.bel) (k := k) (by omega)
      have X := fun w => ix22 (c := c) e1 hlt w
      have HT := Lib.hid (take_succ_of he)
      have hle := fl_le es k (fun e => decide (e.1 = p))
      have hlen : ((es.take k).filter (fun e => decide (e.1 = p))).length < 1000000000 := by omega
      clear he e1 hle
      by_cases hq : e.1 = p
      · have g : (e.1 == p) = true := by simpa using hq
        have HF : Hid ((fun e : Ent => decide (e.1 = p)) e = true) := Lib.hid (by simpa using hq)
        clear hq
        go_wp2_with (at_builtin; refine wpList_pushX rfl _ _ 23 48 rfl Tryz.underlying23 info53b rfl (by omega) (by omega) w _ _ _ _ (ecells e) _ rfl (HOWN.out.own.on (belowA _ _)) rfl (Box.new _ _ _) rfl (ecells_one e) hlen ?_; intro v' w' hown'; have hown5 := Lib.hid hown'; clear hown')
        go_roundw
        case rel => exact ⟨k + 1, by omega, by go_num, Coll.yes HT.out HF.out hown5.out⟩
        case measure => simp [intOf]; omega
      · have g : (e.1 == p) = false := by simpa using hq
        have HF : Hid ((fun e : Ent => decide (e.1 = p)) e = false) := Lib.hid (by simpa using hq)
        clear hq
        go_wp2_with fail
        go_roundw
        case rel => exact ⟨k + 1, by omega, by go_num, Coll.no HT.out HF.out HOWN.out⟩
        case measure => simp [intOf]; omega
    · obtain ⟨B, d, rfl, hr, hb⟩ := HOWN.out.all (by omega)
      have HR := Lib.hid hr
      have HB := Lib.hid hb
      clear hr hb
      go_wp2_with fail
      go_ret
      exact ⟨B, d, rfl, HR.out, HB.out⟩
/-- Where a text's first line ends. -/
def HeadR (s : ByteArray) (h : Nat) : Prop := (h = 0 ∧ (10 : UInt8) ∉ s.data.toList) ∨ ∃ u r, s.data.toList = u ++ 10 :: r ∧ (10 : UInt8) ∉ u ∧ h = u.length + 1
theorem no_take_snoc {b : UInt8} {s : ByteArray} {k : Nat} (h : b ∉ s.data.toList.take k) (hk : k < s.size) (hb : s[k] ≠ b) : b ∉ s.data.toList.take (k + 1) := by
  rw [List.take_succ_eq_append_getElem (by simpa using hk), List.mem_append, List.mem_singleton]
  rintro (h1 | h1)
  · exact h h1
  · exact hb h1.symm
theorem split_at {b : UInt8} {s : ByteArray} {k : Nat} (hk : k < s.size) (hb : s[k] = b) : s.data.toList = s.data.toList.take k ++ b :: s.data.toList.drop (k + 1) := by
  have h := List.drop_eq_getElem_cons (l := s.data.toList) (i := k) (by simpa using hk)
  conv => lhs; rw [← List.take_append_drop k s.data.toList, h]
  rw [← hb]
  rfl
theorem head_any (s : ByteArray) (w : World) (hs : s.size ≤ 1000000) : Calls Tryz.prog 27 #[.string s] w fun r w' => ∃ h : Nat, HeadR s h ∧ r = .returned (.int .i64 h) ∧ w' = w := by
  go_enter Tryz.func27, Tryz.ntmps27
  go_wp2_with fail
  go_loopw [3] (fun i wr => ∃ k : Nat, k ≤ s.size ∧ i = .int .i64 k ∧ (10 : UInt8) ∉ s.data.toList.take k ∧ wr = w) (fun i _ => s.size - (intOf i).toNat)
  case atStart => exact ⟨0, by omega, rfl, by simp, rfl⟩
  case round =>
    obtain ⟨k, hk, rfl, hno, hw⟩ := hrel
    have HN := Lib.hid hno
    have HW := Lib.hid hw
    clear hno hw
    by_cases hlt : k < s.size
    · by_cases hb : s[k] = (10 : UInt8)
      · have g : ((s[k].toNat : Int) == 10) = true := by rw [hb]; rfl
        have HB := Lib.hid (split_at hlt hb)
        clear hb
        go_wp2_with fail
        go_ret
        exact ⟨k + 1, .inr ⟨_, _, HB.out, HN.out, by simp; omega⟩, by first | rfl | go_num, HW.out⟩
      · have g : ((s[k].toNat : Int) == 10) = false := by
          rw [beq_eq_false_iff_ne]
          exact fun e => hb (UInt8.toNat_inj.1 (by show s[k].toNat = 10; omega))
        have HN2 := Lib.hid (no_take_snoc HN.out hlt hb)
        clear hb
        go_wp2_with fail
        go_roundw
        case rel => exact ⟨k + 1, by omega, by go_num, HN2.out, HW.out⟩
        case measure => simp [intOf]; omega
    · have HT : Hid ((10 : UInt8) ∉ s.data.toList) := Lib.hid (by have := HN.out; rwa [List.take_of_length_le (by simp; omega)] at this)
      go_wp2_with fail
      go_ret
      exact ⟨0, .inl ⟨rfl, HT.out⟩, rfl, HW.out⟩
end Go.Proofs.YtnlhllleipemlaaGreatDoor
