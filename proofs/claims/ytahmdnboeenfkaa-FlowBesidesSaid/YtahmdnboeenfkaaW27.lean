/- Walks: clone. -/
import Derived.Test.YtahmdnboeenfkaaW25
namespace Go.Proofs.Ytahmdnboeenfkaa
open Go.RowKit Go.Sort

theorem row_mono {w : World} {base base' : Nat} {e : TypeId} {sz n : Nat} {u : Value} {xs : List Value} (h : w.ownsRow base e sz u n xs) (hb : base' ≤ base) : w.ownsRow base' e sz u n xs := by
  refine ⟨h.1, ?_⟩
  rcases h.2 with h0 | ⟨g, cap, cur, h1, h2, h3⟩
  · exact .inl h0
  · exact .inr ⟨g, cap, cur, h1, Nat.le_trans hb h2, h3⟩
set_option maxHeartbeats 4000000 in
set_option maxRecDepth 4000 in
theorem clone_any (v : FV) (w : World) (hv : v.In w) (hn : v.n ≤ 1000000) (hm : v.m ≤ 1000000) :
    Calls Try.prog 82 #[v.val] w (RetClone v.f w) := by
  have HV := Lib.hid hv
  clear hv
  go_enter Try.func82, Try.ntmps82
  dsimp only [FV.val]
  go_wp2_with fail
  refine wp_gen (fun W => Box W w.heap.size #[.int .i64 v.f.W, .int .i64 v.f.H, .slice v.A v.n v.c, .slice v.B v.m v.d] ∧ (∀ i, W.frozen? ⟨w.heap.size, i, none⟩ = false) ∧ Box W (w.heap.size + 1) #[.int .i64 0, .int .i64 0, .slice none 0 0, .slice none 0 0] ∧ (∀ i, W.frozen? ⟨w.heap.size + 1, i, none⟩ = false) ∧ Below w.heap.size w W) ⟨(Box.new _ _ _).alloc _, ?_, Box.new2 _ _ _ _ _, ?_, belowAA _ _ _⟩ ?_
  · exact fz_below (Box.new w _ 25).1 (fz_new _ _ _) (belowA _ _)
  · have := fz_new (w.alloc (.cells #[.int .i64 v.f.W, .int .i64 v.f.H, .slice v.A v.n v.c, .slice v.B v.m v.d] 25)) #[.int .i64 0, .int .i64 0, .slice none 0 0, .slice none 0 0] 25
    rw [World.size_alloc] at this; exact this
  rintro w1 ⟨b0, f0, br, fr, hb1⟩
  have HV1 := Lib.hid (HV.out.below hb1)
  have hw1 := Lib.hid hb1
  clear hb1
  have c0 := b0.at
  go_region_with (first
    | (go_at_call 95; refine (cloneI_any v.A v.n v.c v.f.ds _ (HV1.out.ds.on (Below.refl _ _).drew) hn).mono ?_; rintro r w2 ⟨A', c', rfl, hrA, hbA⟩; have hbA' : Below w1.heap.size w1 w2 := ⟨hbA.os, hbA.tape, hbA.output, hbA.size, hbA.block⟩; have kA := (b0.below hbA').at; have zA := fz_below b0.1 f0 hbA'; have HRA := Lib.hid hrA; have HBA := Lib.hid hbA'; clear hrA hbA hbA')
    | (go_at_call 85; refine (cloneE_any v.B v.m v.d v.f.ps _ (HV1.out.ps.on HBA.out.drew) hm).mono ?_; rintro r w3 ⟨B', d', rfl, hrB, hbB⟩; have hbB' : Below w2.heap.size w2 w3 := ⟨hbB.os, hbB.tape, hbB.output, hbB.size, hbB.block⟩; have kB := (b0.below (below_trans' HBA.out hbB')).at; have zB := fz_below b0.1 f0 (below_trans' HBA.out hbB'); have HRB := Lib.hid hrB; have HBB := Lib.hid hbB'; clear hrB hbB hbB')
    | (go_at_call 85; refine (cloneE_any v.B v.m v.d v.f.ps _ (HV1.out.ps.on HBA.out) hm).mono ?_; rintro r w3 ⟨B', d', rfl, hrB, hbB⟩; have hbB' : Below w2.heap.size w2 w3 := ⟨hbB.os, hbB.tape, hbB.output, hbB.size, hbB.block⟩; have kB := (b0.below (below_trans' HBA.out hbB')).at; have zB := fz_below b0.1 f0 (below_trans' HBA.out hbB'); have HRB := Lib.hid hrB; have HBB := Lib.hid hbB'; clear hrB hbB hbB'))
  all_goals
    have hbw := Lib.hid (below_trans' HBA.out HBB.out)
    have hb3 := b0.below hbw.out
    have hr3 := br.below hbw.out
    have hlt := Lib.hid br.1
    have zR := fz_below br.1 fr hbw.out
    have hne : ∀ i, w.heap.size + 1 ≠ (⟨w.heap.size, i, none⟩ : Addr).block := fun i => by show w.heap.size + 1 ≠ w.heap.size; omega
    have bf := (hb3.set (i := 2) (by simp) (.slice A' v.n c')).set (i := 3) (by simp) (.slice B' v.m d')
    have bR := (hr3.far (p := ⟨w.heap.size, 2, none⟩) (hne 2) (.slice A' v.n c')).far (p := ⟨w.heap.size, 3, none⟩) (hne 3) (.slice B' v.m d')
    have cf := bf.at
    have cR := bR.at
    clear c0 kA zA kB zB b0 br f0 fr hb3 hr3
    go_wp2_with fail
    have bF := (((bR.set (i := 0) (by simp) (.int .i64 v.f.W)).set (i := 1) (by simp) (.int .i64 v.f.H)).set (i := 2) (by simp) (.slice A' v.n c')).set (i := 3) (by simp) (.slice B' v.m d')
    have cF := bF.at
    refine bodyPost_ret (v := .agg #[.int .i64 v.f.W, .int .i64 v.f.H, .slice A' v.n c', .slice B' v.m d']) (by simp [results, Try.results82, go_sem, cF]) rfl
      ⟨⟨v.f, A', B', v.n, c', v.m, d'⟩, rfl, rfl, ?_, ?_⟩
    · have hA : ∀ k, (Value.slice A' v.n c').ownBlock = some k → w1.heap.size ≤ k ∧ k < w2.heap.size := HRA.out.lt
      have hB : ∀ k, (Value.slice B' v.m d').ownBlock = some k → w2.heap.size ≤ k ∧ k < w3.heap.size := HRB.out.lt
      have hw := HBA.out.size
      have hl := hlt.out
      have o3 : FOwn w.heap.size w3 ⟨v.f, A', B', v.n, c', v.m, d'⟩ := ⟨row_on (row_mono HRA.out hw1.out.size) HBB.out, row_mono HRB.out (Nat.le_trans hw1.out.size hw), fun p q hp hq => by
        have h1 := hA p.block (by rw [show A' = some p from hp]; rfl)
        have h2 := hB q.block (by rw [show B' = some q from hq]; rfl)
        omega⟩
      have fA : ∀ b i p, b ≤ w.heap.size + 1 → A' = some p → p.block ≠ (⟨b, i, none⟩ : Addr).block := fun b i p hb hp => by
        have h1 := hA p.block (by rw [hp]; rfl)
        show p.block ≠ b; omega
      have fB : ∀ b i p, b ≤ w.heap.size + 1 → B' = some p → p.block ≠ (⟨b, i, none⟩ : Addr).block := fun b i p hb hp => by
        have h1 := hB p.block (by rw [hp]; rfl)
        show p.block ≠ b; omega
      exact (((((o3.far (fun p => fA _ 2 p (by omega)) (fun p => fB _ 2 p (by omega)) _).far (fun p => fA _ 3 p (by omega)) (fun p => fB _ 3 p (by omega)) _).far (fun p => fA _ 0 p (by omega)) (fun p => fB _ 0 p (by omega)) _).far (fun p => fA _ 1 p (by omega)) (fun p => fB _ 1 p (by omega)) _).far (fun p => fA _ 2 p (by omega)) (fun p => fB _ 2 p (by omega)) _).far (fun p => fA _ 3 p (by omega)) (fun p => fB _ 3 p (by omega)) _
    · have h0 := below_trans' hw1.out hbw.out
      exact (((((h0.setCell (p := ⟨w.heap.size, 2, none⟩) (Nat.le_refl _) _).setCell (p := ⟨w.heap.size, 3, none⟩) (Nat.le_refl _) _).setCell (p := ⟨w.heap.size + 1, 0, none⟩) (Nat.le_succ _) _).setCell (p := ⟨w.heap.size + 1, 1, none⟩) (Nat.le_succ _) _).setCell (p := ⟨w.heap.size + 1, 2, none⟩) (Nat.le_succ _) _).setCell (p := ⟨w.heap.size + 1, 3, none⟩) (Nat.le_succ _) _
end Go.Proofs.Ytahmdnboeenfkaa
