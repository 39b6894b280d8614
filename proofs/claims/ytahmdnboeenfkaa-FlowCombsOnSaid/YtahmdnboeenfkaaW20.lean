/- Walks: Comb, the reference's. -/
import Derived.Test.YtahmdnboeenfkaaW19
namespace Go.Proofs.Ytahmdnboeenfkaa
open Go.RowKit Go.Sort

def xsA : Array Value := #[.int .i64 1, .int .i64 1, .int .i64 0, .int .i64 (-1), .int .i64 (-1), .int .i64 (-1), .int .i64 0, .int .i64 1]
def ysA : Array Value := #[.int .i64 0, .int .i64 1, .int .i64 1, .int .i64 1, .int .i64 0, .int .i64 (-1), .int .i64 (-1), .int .i64 (-1)]
theorem xsA_get {d : Int} (h0 : 0 ≤ d) (h1 : d ≤ 7) : xsA[d.toNat]? = some (.int .i64 (dX d)) ∧ ysA[d.toNat]? = some (.int .i64 (dY d)) := by
  have h : ∀ n : Fin 8, xsA[n.1]? = some (.int .i64 (dxs.getD n.1 0)) ∧ ysA[n.1]? = some (.int .i64 (dys.getD n.1 0)) := by
    intro n
    match n with
    | ⟨0, _⟩ => exact ⟨rfl, rfl⟩
    | ⟨1, _⟩ => exact ⟨rfl, rfl⟩
    | ⟨2, _⟩ => exact ⟨rfl, rfl⟩
    | ⟨3, _⟩ => exact ⟨rfl, rfl⟩
    | ⟨4, _⟩ => exact ⟨rfl, rfl⟩
    | ⟨5, _⟩ => exact ⟨rfl, rfl⟩
    | ⟨6, _⟩ => exact ⟨rfl, rfl⟩
    | ⟨7, _⟩ => exact ⟨rfl, rfl⟩
  exact h ⟨d.toNat, by omega⟩
theorem ix86 {b : Nat} {d : Int} (h0 : 0 ≤ d) (h1 : d ≤ 7) (w : World) : (Instr.indexAt 86 (.pointer (some ⟨b, 0, none⟩)) (.int .i64 d)).run Try.prog w = .ok (.pointer (some ⟨b, d.toNat, none⟩)) w := by
  have hl : (Try.prog.arrayLen 86 : Int) = 8 := by kernel_rfl
  have hs : (sizeOf (Try.prog.elem 86)).run Try.prog w = .ok 1 w := by kernel_rfl
  rw [run_indexAt_array w 86 ⟨b, 0, none⟩ .i64 d (by kernel_rfl), hl, if_pos (by omega), hs]
  simp only [Result.andThen, Addr.add, Nat.mul_one]
  split
  · rename_i h; rw [h]
  · simp
set_option maxRecDepth 4000 in
theorem refComb_any (v : FV) (p : Plc) (w : World) (hv : v.In w) : Calls Try.prog 32 #[v.val, .int .i64 p.1, .int .i64 p.2] w (RetComb v.f p w) := by
  have HVv := Lib.hid hv
  clear hv
  go_enter Try.func32, Try.ntmps32
  dsimp only [FV.val, eval_]
  go_wp2_with fail
  refine (refValidate_any v _ (HVv.out.below (belowA _ _))).mono ?_
  rintro r w1 ⟨rfl, hb1⟩
  have b0 := (Box.new _ _ _).below hb1
  have hw1 := Lib.hid (below1 _ hb1)
  clear hb1
  by_cases hz : valid v.f = 0
  case neg =>
    have hz' : (valid v.f != 0) = true := by simpa using hz
    have HZ := Lib.hid hz
    clear hz
    go_wp2_with fail
    go_ret3
    exact .inl ⟨HZ.out, rfl, hw1.out⟩
  have ok := Lib.hid (okf_of_valid hz)
  have hz' : (valid v.f != 0) = false := by simpa using hz
  have HZ := Lib.hid hz
  clear hz
  have c0 := b0.at
  go_wp2_with fail
  clear c0
  refine (isPlace_any v p.1 p.2 _ ok.out.w1 ok.out.w2 ok.out.h1 ok.out.h2).mono ?_
  rintro r w2 ⟨rfl, hb2⟩
  replace b0 := b0.below hb2
  replace hw1 := Lib.hid (below_trans' hw1.out hb2)
  clear hb2
  cases hp : isP v.f.W v.f.H p.1 p.2
  · have HP := Lib.hid hp
    clear hp
    go_wp2_with fail
    go_ret3
    exact .inr (.inl ⟨HZ.out, HP.out, rfl, hw1.out⟩)
  have HP := Lib.hid hp
  clear hp
  go_wp2_with fail
  refine wp_gen (fun W => Below w2.heap.size w2 W ∧ Box W w.heap.size #[.int .i64 v.f.W, .int .i64 v.f.H, .slice v.A v.n v.c, .slice v.B v.m v.d] ∧ Box W w2.heap.size xsA ∧ Box W (w2.heap.size + 1) ysA) ⟨belowAA _ _ _, (b0.alloc _).alloc _, (Box.new _ _ _).alloc _, Box.new2 _ _ _ _ _⟩ ?_
  rintro wA ⟨hbA, bf, bx, bY⟩
  have hwA := Lib.hid (below_trans' hw1.out hbA)
  have HVA := Lib.hid (HVv.out.below hwA.out)
  clear hbA b0
  go_loopw [1, 2, 12] (fun x y out wr => ∃ k : Nat, Goes v.f p k ∧ x = .int .i64 (itn v.f p k).1 ∧ y = .int .i64 (itn v.f p k).2 ∧ lenOf out = k ∧ OwnX 35 2 wA wr out k (plcs (pth v.f p k))) (fun _ _ out _ => (v.f.W * v.f.H).toNat - lenOf out)
  case atStart => exact ⟨0, Goes.zero _ _, rfl, rfl, rfl, OwnX.nil _ _ _⟩
  case round =>
    obtain ⟨k, hgo, rfl, rfl, hlen, hown0⟩ := hrel
    have HGO := Lib.hid hgo
    have HLEN := Lib.hid hlen
    have hw12 := ok.out.w2
    have hh12 := ok.out.h2
    have hw11 := ok.out.w1
    have hh11 := ok.out.h1
    have HSU := Lib.hid (show itn v.f p (k + 1) = nxt v.f (itn v.f p k) from rfl)
    have hmul : v.f.W * v.f.H ≤ 144 := by
      have := Int.mul_le_mul hw12 hh12 (by omega) (by omega)
      omega
    have hklen := hgo.len (by omega) (by omega)
    have hlenk : k < 1000000000 := by omega
    have hk0 : k = 0 → (itn v.f p k) = p := fun h => by rw [h]; rfl
    have HK0 := Lib.hid hk0
    obtain ⟨q, hq⟩ : ∃ q, q = itn v.f p k := ⟨_, rfl⟩
    rw [← hq] at HSU HK0 ⊢
    have HQ := Lib.hid hq
    obtain ⟨A', c', hv', hr'⟩ := hown0.form
    subst hv'
    have HOWN := Lib.hid hown0
    have HR := Lib.hid hr'
    have cf := (bf.below hown0.bel).at
    clear hgo hlen hown0 hq hklen hmul hr' hk0
    go_wp2_with fail
    clear cf
    refine (isPlace_any v q.1 q.2 _ hw11 hw12 hh11 hh12).mono ?_
    rintro r w3 ⟨rfl, hb3⟩
    have HO3 := Lib.hid (HOWN.out.on hb3)
    have HR3 := Lib.hid (HR.out.on hb3)
    clear hb3
    cases hp : isP v.f.W v.f.H q.1 q.2
    · have HPN := Lib.hid hp
      have hk1 : 0 < k := by
        rcases Nat.eq_zero_or_pos k with h | h
        · exfalso
          have := HK0.out h
          rw [this, HP.out] at hp
          cases hp
        · exact h
      clear hp
      go_wp2_with fail
      go_ret3
      exact .inr (.inr ⟨HZ.out, HP.out, k, false, A', c', Stop.off' HGO.out hk1 (by rw [← HQ.out]; exact HPN.out), rfl, HR3.out, below_trans' hwA.out HO3.out.bel⟩)
    have HPN := Lib.hid hp
    clear hp
    go_wp2_with fail
    refine (named_any A' k c' (pth v.f p k) q.1 q.2 _ HR3.out (by omega)).mono ?_
    rintro r w4 ⟨rfl, hb4⟩
    have HO4 := Lib.hid (HO3.out.on hb4)
    have HR4 := Lib.hid (HR3.out.on hb4)
    clear hb4
    cases hc : decide ((q.1, q.2) ∈ pth v.f p k)
    · have HC := Lib.hid (show q ∉ pth v.f p k from of_decide_eq_false hc)
      clear hc
      have HG1 := Lib.hid (HGO.out.succ (by rw [← HQ.out]; exact HPN.out) (by rw [← HQ.out]; exact HC.out))
      have hk1 : (k : Int) + 1 ≤ v.f.W * v.f.H := by have := HG1.out.len (by omega) (by omega); omega
      have hon := HPN.out
      unfold isP at hon
      rw [decide_eq_true_eq] at hon
      obtain ⟨x0, x1, y0, y1⟩ := hon
      go_wp2_with (at_builtin; refine wpList_pushX rfl _ _ 45 35 rfl Try.underlying45 info35 rfl (by omega) (by omega) wA _ _ _ _ (pcells q) _ rfl (HO4.out.on (belowA _ _)) rfl (Box.new _ _ _) rfl (plcs_one [_]) hlenk ?_; intro v' w' hown'; have HO5 := Lib.hid hown'; have cf' := (bf.below hown'.bel).at; clear hown')
      clear cf'
      refine (refAt_any v q.1 q.2 _ (HVA.out.below HO5.out.bel) ok.out.size x0 x1 y0 y1).mono ?_
      rintro r w6 ⟨rfl, hb6⟩
      have HO6 := Lib.hid (HO5.out.on hb6)
      clear hb6
      have hdb := dir_bd ok.out q.1 q.2 x0 x1 y0 y1
      have HNX := Lib.hid (show nxt v.f q = (q.1 + dX (v.f.dir q.1 q.2), q.2 + dY (v.f.dir q.1 q.2)) from rfl)
      generalize v.f.dir q.1 q.2 = d at hdb HNX ⊢
      obtain ⟨d0, d1⟩ := hdb
      obtain ⟨s1, s2⟩ := xsA_get d0 d1
      have X := fun w => ix86 (b := w2.heap.size) d0 d1 w
      have X' := fun w => ix86 (b := w2.heap.size + 1) d0 d1 w
      obtain ⟨p0, p1⟩ := dX_bd d
      obtain ⟨p2, p3⟩ := dY_bd d
      have cx := (bx.below HO6.out.bel).at
      have cy := (bY.below HO6.out.bel).at
      go_wp2_with fail
      go_quiet (fail)
      go_wp2_with fail
      go_roundw
      case rel =>
        refine ⟨k + 1, HG1.out, ?_, ?_, ?_, ?_⟩
        · rw [HSU.out, HNX.out]
        · rw [HSU.out, HNX.out]
        · obtain ⟨A5, c5, h5, _⟩ := HO6.out.form
          rw [h5]; rfl
        · rw [plcs_snoc, ← HQ.out]
          exact HO6.out.on (below_drewN' (Below.refl _ _) _)
      case measure =>
        obtain ⟨A5, c5, h5, _⟩ := HO6.out.form
        rw [h5]; simp only [lenOf]; omega
    · have HC := Lib.hid (show q ∈ pth v.f p k from of_decide_eq_true hc)
      have hk1 : 0 < k := by
        obtain ⟨i, hi, _⟩ := mem_pth.1 HC.out
        omega
      clear hc
      go_wp2_with fail
      go_ret3
      exact .inr (.inr ⟨HZ.out, HP.out, k, true, A', c', Stop.back' HGO.out hk1 (by rw [← HQ.out]; exact HPN.out) (by rw [← HQ.out]; exact HC.out), rfl, HR4.out, below_trans' hwA.out HO4.out.bel⟩)
end Go.Proofs.Ytahmdnboeenfkaa
