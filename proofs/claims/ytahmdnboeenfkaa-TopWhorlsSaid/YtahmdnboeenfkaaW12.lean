/- Walks: the reference's Copy. -/
import Derived.Test.YtahmdnboeenfkaaW11
import Derived.Test.YtahmdnboeenfkaaCp
namespace Go.Proofs.Ytahmdnboeenfkaa
open Go.RowKit Go.Sort
set_option maxHeartbeats 400000 in
theorem copy_any (v : FV) (w : World) (hv : v.In w) (hn : v.f.ds.length ≤ 1000000) (hm : v.f.ps.length ≤ 1000000) :
    Calls Try.prog 19 #[v.val] w (RetFld v.f w) := by
  obtain ⟨l1, l2⟩ := hv.l1
  obtain ⟨l3, l4⟩ := hv.l2
  have HVv := Lib.hid hv
  clear hv
  go_enter Try.func19, Try.ntmps19
  dsimp only [FV.val]
  go_wp2_with fail
  refine wp_gen (fun w1 => Box w1 w.heap.size #[.int .i64 v.f.W, .int .i64 v.f.H, .slice v.A v.n v.c, .slice v.B v.m v.d] ∧ Below w.heap.size w w1 ∧ w1.heap.size = w.heap.size + 2 ∧ Box w1 (w.heap.size + 1) #[.int .i64 0, .int .i64 0, .slice none 0 0, .slice none 0 0] ∧ ∀ i, w1.frozen? ⟨w.heap.size + 1, i, none⟩ = false) ⟨(Box.new _ _ _).alloc _, belowAA _ _ _, by simp, Box.new2 _ _ _ _ _, by have := fz_new (w.alloc (.cells #[.int .i64 v.f.W, .int .i64 v.f.H, .slice v.A v.n v.c, .slice v.B v.m v.d] 25)) #[.int .i64 0, .int .i64 0, .slice none 0 0, .slice none 0 0] 25; rw [World.size_alloc] at this; exact this⟩ ?_
  rintro w1 ⟨b0, hw10, hsz0, br, hfz0⟩
  have HFZ := Lib.hid hfz0
  clear hfz0
  have HV1 := Lib.hid (HVv.out.below hw10)
  have hw1 := Lib.hid hw10
  have hsz := Lib.hid hsz0
  clear hw10
  have c0 := b0.at
  have hne : w.heap.size ≠ w1.heap.size := by omega
  clear hsz0
  go_region_held3 (fun w' => (∀ i, w'.cell? ⟨w.heap.size, i, none⟩ = (#[.int .i64 v.f.W, .int .i64 v.f.H, .slice v.A v.n v.c, .slice v.B v.m v.d] : Array Value)[i]?)) (first | (with_reducible first | exact b0.drew.at | exact (b0.alloc _).drew.at | exact (b0.drew.below hbh.out).at | exact ((b0.alloc _).drew.below hbh.out).at | exact ((b0.drew.below hbh.out).alloc _).at) | exact ((((((b0.alloc _).drew.below hbh.out)).far hne _).far hne _).far hne _).far hne _ |>.at)
    (first | (go_at_call 56; refine (copyInts_any _ _ _ v.f.ds _ (HV1.out.ds.on (by with_reducible first | exact (Below.refl _ _).drew | exact (belowA _ _).drew)) (by omega)).mono ?_; rintro e w' ⟨A', c', rfl, hr, hb, hfr⟩; have HFR := Lib.hid hfr; clear hfr; have hbh := Lib.hid hb; first | (have k0 := ((Box.new w1 _ 25).drew.below hb).at; have k1 := fz_below (Box.new w1 _ 25).drew.1 (fz_drew (fz_new w1 _ 25)) hb; clear hb) | clear hb))
  all_goals go_wp2_with fail
  · refine wp_gen (fun W => CInv 0 W.heap.size w1 W w'.heap.size #[.int .i64 v.f.W, .int .i64 v.f.H, .slice A' v.f.ds.length c', .slice none 0 0] A' v.f.ds [] (.slice none 0 0)) ?_ ?_
    · exact CInv.behind (undrew hbh.out) hr HFR.out 25
    intro wl hinv0
    generalize w'.heap.size = B at hinv0 ⊢
    have hpar : B = B := rfl
    have HI := Lib.hid hinv0
    clear hinv0
    clear hr hbh HFR
    have HP := Lib.hid hpar
    clear hpar
    go_loopw [4] (fun i wr => ∃ k : Nat, k ≤ v.m ∧ i = .int .i64 k ∧ ∃ rv, CInv 0 wl.heap.size w1 wr B #[.int .i64 v.f.W, .int .i64 v.f.H, .slice A' v.f.ds.length c', rv] A' v.f.ds (v.f.ps.take k) rv) (fun i _ => v.m - (intOf i).toNat)
    case atStart => exact ⟨0, by omega, rfl, _, by simpa using HI.out⟩
    case round =>
      obtain ⟨k, hk, rfl, rv, hc0⟩ := hrel
      have HC := Lib.hid hc0
      have bf := b0.below hc0.bel
      have bo := hc0.box
      by_cases hlt : k < v.m
      · obtain ⟨ad, x, e1, hbk, hx0, d0, d1, d2⟩ := psat HV1.out.ps (k := k) (by omega)
        have hx := Lib.hid hx0
        have X := fun w => ix23 (c := v.d) e1 hlt w
        have hlen : (v.f.ps.take k).length < 1000000000 := by rw [List.length_take]; omega
        have h1 := hc0.bel.cell (p := ad.add (k * 3)) (by rw [blockAdd]; exact hbk)
        have h2 := hc0.bel.cell (p := ⟨(ad.add (k * 3)).block, (ad.add (k * 3)).off + 1, none⟩) (by show (ad.add (k * 3)).block < _; rw [blockAdd]; exact hbk)
        have h3 := hc0.bel.cell (p := ⟨(ad.add (k * 3)).block, (ad.add (k * 3)).off + 2, none⟩) (by show (ad.add (k * 3)).block < _; rw [blockAdd]; exact hbk)
        rw [← h1] at d0
        rw [← h2] at d1
        rw [← h3] at d2
        have cf := bf.at
        have co := bo.at
        have co2 := fun o => (bo.alloc o).at
        have cfz := hc0.fz
        clear hx0 e1 hc0 h1 h2 h3
        go_wp2_with fail
        go_region_law (first | (refine step_push rfl _ _ rfl wl.heap.size _ rv (v.f.ps.take k) x wr.heap.size rfl (HC.out.on (belowA _ _).drew).row (HC.out.on (belowA _ _).drew).sz rfl (Box.new _ _ _).drew hlen ?_; intro v' w2 hr1 hr2; obtain ⟨A2, c2, hv2⟩ := row_form hr1; subst hv2; have HI2 := Lib.hid ((HC.out.on (belowA _ _).drew).pushed hr1 hr2); have ck := HI2.out.box.at; have fk := HI2.out.fz; clear hr1 hr2))
        all_goals
          go_wp2_with fail
          go_roundw
          case rel => exact ⟨k + 1, by omega, by go_num, _, by rw [take_succ_of hx.out]; simpa using HI2.out.stored (i := 3) (by simp) _⟩
          case measure => simp [intOf]; omega
      · clear HC bo
        rw [show v.f.ps.take k = v.f.ps from List.take_of_length_le (by omega)] at hc0
        obtain ⟨A2, c2, hv2⟩ := row_form hc0.row
        subst hv2
        have HC := Lib.hid hc0
        have bo := hc0.box
        have cf := bf.at
        have co := bo.at
        have bR := br.below hc0.bel
        have cr := bR.at
        have cz := fz_below br.1 HFZ.out hc0.bel
        have hne2 : B ≠ w.heap.size + 1 := by have := hc0.b0; have := hsz.out; omega
        have HNE := Lib.hid hne2
        have hl : v.f.ps.length ≤ 9223372036854775807 := by omega
        clear hc0 hne2
        go_wp2_with fail
        have bF := (((bR.set (i := 0) (by simp) (.int .i64 v.f.W)).set (i := 1) (by simp) (.int .i64 v.f.H)).set (i := 2) (by simp) (.slice A' v.f.ds.length c')).set (i := 3) (by simp) (.slice A2 v.f.ps.length c2)
        have cF := bF.at
        refine bodyPost_ret (v := .agg #[.int .i64 v.f.W, .int .i64 v.f.H, .slice A' v.f.ds.length c', .slice A2 v.f.ps.length c2]) (by simp [results, Try.results19, go_sem, cF]) rfl
          ⟨⟨v.f, A', A2, v.f.ds.length, c', v.f.ps.length, c2⟩, rfl, rfl, ⟨?_, ?_, by show v.f.ds.length ≤ _; omega, hl⟩, ?_⟩
        · have hA : ∀ p, A' = some p → p.block ≠ w.heap.size + 1 := fun p hp => by have := (HC.out.b2 p hp).1; have := hsz.out; omega
          simp only [size_set]
          exact (((HC.out.rd.far (q := ⟨w.heap.size + 1, 0, none⟩) hA _).far (q := ⟨w.heap.size + 1, 1, none⟩) hA _).far (q := ⟨w.heap.size + 1, 2, none⟩) hA _).far (q := ⟨w.heap.size + 1, 3, none⟩) hA _
        · have hA : ∀ p, A2 = some p → p.block ≠ w.heap.size + 1 := fun p hp => by
            have := (HC.out.row.lt p.block (by rw [hp]; rfl)).1
            have := HC.out.b0
            have := HC.out.b1
            have := hsz.out
            omega
          simp only [size_set]
          exact ((((Reads.of_own HC.out.row).far (q := ⟨w.heap.size + 1, 0, none⟩) hA _).far (q := ⟨w.heap.size + 1, 1, none⟩) hA _).far (q := ⟨w.heap.size + 1, 2, none⟩) hA _).far (q := ⟨w.heap.size + 1, 3, none⟩) hA _
        · have h0 := below_trans' hw1.out HC.out.bel
          exact (((h0.setCell (p := ⟨w.heap.size + 1, 0, none⟩) (Nat.le_succ _) _).setCell (p := ⟨w.heap.size + 1, 1, none⟩) (Nat.le_succ _) _).setCell (p := ⟨w.heap.size + 1, 2, none⟩) (Nat.le_succ _) _).setCell (p := ⟨w.heap.size + 1, 3, none⟩) (Nat.le_succ _) _
  · refine wp_gen (fun W => CInv 0 W.heap.size w1 W w1.heap.size #[.int .i64 v.f.W, .int .i64 v.f.H, .slice A' v.f.ds.length c', .slice none 0 0] A' v.f.ds [] (.slice none 0 0)) ?_ ?_
    · have h0 := CInv.ahead (w1 := w1) (ds := v.f.ds) (undrew hbh.out) hr HFR.out
      have h1 := (((h0.stored (i := 0) (by simp) (.int .i64 v.f.W)).stored (i := 1) (by simp) (.int .i64 v.f.H)).stored (i := 2) (by simp) (.slice A' v.f.ds.length c')).stored (i := 3) (by simp) (.slice none 0 0)
      simp only [size_set]
      simpa using h1
    intro wl hinv0
    generalize hB : w1.heap.size = B at hinv0 ⊢
    have hpar := hB
    clear hB
    have HI := Lib.hid hinv0
    clear hinv0
    clear hr hbh HFR
    have HP := Lib.hid hpar
    clear hpar
    go_loopw [4] (fun i wr => ∃ k : Nat, k ≤ v.m ∧ i = .int .i64 k ∧ ∃ rv, CInv 0 wl.heap.size w1 wr B #[.int .i64 v.f.W, .int .i64 v.f.H, .slice A' v.f.ds.length c', rv] A' v.f.ds (v.f.ps.take k) rv) (fun i _ => v.m - (intOf i).toNat)
    case atStart => exact ⟨0, by omega, rfl, _, by simpa using HI.out⟩
    case round =>
      obtain ⟨k, hk, rfl, rv, hc0⟩ := hrel
      have HC := Lib.hid hc0
      have bf := b0.below hc0.bel
      have bo := hc0.box
      by_cases hlt : k < v.m
      · obtain ⟨ad, x, e1, hbk, hx0, d0, d1, d2⟩ := psat HV1.out.ps (k := k) (by omega)
        have hx := Lib.hid hx0
        have X := fun w => ix23 (c := v.d) e1 hlt w
        have hlen : (v.f.ps.take k).length < 1000000000 := by rw [List.length_take]; omega
        have h1 := hc0.bel.cell (p := ad.add (k * 3)) (by rw [blockAdd]; exact hbk)
        have h2 := hc0.bel.cell (p := ⟨(ad.add (k * 3)).block, (ad.add (k * 3)).off + 1, none⟩) (by show (ad.add (k * 3)).block < _; rw [blockAdd]; exact hbk)
        have h3 := hc0.bel.cell (p := ⟨(ad.add (k * 3)).block, (ad.add (k * 3)).off + 2, none⟩) (by show (ad.add (k * 3)).block < _; rw [blockAdd]; exact hbk)
        rw [← h1] at d0
        rw [← h2] at d1
        rw [← h3] at d2
        have cf := bf.at
        have co := bo.at
        have co2 := fun o => (bo.alloc o).at
        have cfz := hc0.fz
        clear hx0 e1 hc0 h1 h2 h3
        go_wp2_with fail
        go_region_law (first | (refine step_push rfl _ _ rfl wl.heap.size _ rv (v.f.ps.take k) x wr.heap.size rfl (HC.out.on (belowA _ _).drew).row (HC.out.on (belowA _ _).drew).sz rfl (Box.new _ _ _).drew hlen ?_; intro v' w2 hr1 hr2; obtain ⟨A2, c2, hv2⟩ := row_form hr1; subst hv2; have HI2 := Lib.hid ((HC.out.on (belowA _ _).drew).pushed hr1 hr2); have ck := HI2.out.box.at; have fk := HI2.out.fz; clear hr1 hr2))
        all_goals
          go_wp2_with fail
          go_roundw
          case rel => exact ⟨k + 1, by omega, by go_num, _, by rw [take_succ_of hx.out]; simpa using HI2.out.stored (i := 3) (by simp) _⟩
          case measure => simp [intOf]; omega
      · clear HC bo
        rw [show v.f.ps.take k = v.f.ps from List.take_of_length_le (by omega)] at hc0
        obtain ⟨A2, c2, hv2⟩ := row_form hc0.row
        subst hv2
        have HC := Lib.hid hc0
        have bo := hc0.box
        have cf := bf.at
        have co := bo.at
        have bR := br.below hc0.bel
        have cr := bR.at
        have cz := fz_below br.1 HFZ.out hc0.bel
        have hne2 : B ≠ w.heap.size + 1 := by have := hc0.b0; have := hsz.out; omega
        have HNE := Lib.hid hne2
        have hl : v.f.ps.length ≤ 9223372036854775807 := by omega
        clear hc0 hne2
        go_wp2_with fail
        have bF := (((bR.set (i := 0) (by simp) (.int .i64 v.f.W)).set (i := 1) (by simp) (.int .i64 v.f.H)).set (i := 2) (by simp) (.slice A' v.f.ds.length c')).set (i := 3) (by simp) (.slice A2 v.f.ps.length c2)
        have cF := bF.at
        refine bodyPost_ret (v := .agg #[.int .i64 v.f.W, .int .i64 v.f.H, .slice A' v.f.ds.length c', .slice A2 v.f.ps.length c2]) (by simp [results, Try.results19, go_sem, cF]) rfl
          ⟨⟨v.f, A', A2, v.f.ds.length, c', v.f.ps.length, c2⟩, rfl, rfl, ⟨?_, ?_, by show v.f.ds.length ≤ _; omega, hl⟩, ?_⟩
        · have hA : ∀ p, A' = some p → p.block ≠ w.heap.size + 1 := fun p hp => by have := (HC.out.b2 p hp).1; have := hsz.out; omega
          simp only [size_set]
          exact (((HC.out.rd.far (q := ⟨w.heap.size + 1, 0, none⟩) hA _).far (q := ⟨w.heap.size + 1, 1, none⟩) hA _).far (q := ⟨w.heap.size + 1, 2, none⟩) hA _).far (q := ⟨w.heap.size + 1, 3, none⟩) hA _
        · have hA : ∀ p, A2 = some p → p.block ≠ w.heap.size + 1 := fun p hp => by
            have := (HC.out.row.lt p.block (by rw [hp]; rfl)).1
            have := HC.out.b0
            have := HC.out.b1
            have := hsz.out
            omega
          simp only [size_set]
          exact ((((Reads.of_own HC.out.row).far (q := ⟨w.heap.size + 1, 0, none⟩) hA _).far (q := ⟨w.heap.size + 1, 1, none⟩) hA _).far (q := ⟨w.heap.size + 1, 2, none⟩) hA _).far (q := ⟨w.heap.size + 1, 3, none⟩) hA _
        · have h0 := below_trans' hw1.out HC.out.bel
          exact (((h0.setCell (p := ⟨w.heap.size + 1, 0, none⟩) (Nat.le_succ _) _).setCell (p := ⟨w.heap.size + 1, 1, none⟩) (Nat.le_succ _) _).setCell (p := ⟨w.heap.size + 1, 2, none⟩) (Nat.le_succ _) _).setCell (p := ⟨w.heap.size + 1, 3, none⟩) (Nat.le_succ _) _
end Go.Proofs.Ytahmdnboeenfkaa
