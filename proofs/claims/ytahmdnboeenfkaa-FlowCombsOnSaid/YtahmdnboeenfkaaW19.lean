/- Walks: Comb, the program's. -/
import Derived.Test.YtahmdnboeenfkaaBx
import Derived.Test.YtahmdnboeenfkaaW18
import Derived.WalkMore
namespace Go.Proofs.Ytahmdnboeenfkaa
open Go.RowKit Go.Sort

/-- Comb's three results. -/
def RetComb (f : Fld) (p : Plc) (w : World) (r : Ending) (w' : World) : Prop :=
  (valid f ≠ 0 ∧ r = .returned (.tuple #[.slice none 0 0, .bool false, .int .i64 (valid f)]) ∧ Below w.heap.size w w') ∨
  (valid f = 0 ∧ isPl f p = false ∧ r = .returned (.tuple #[.slice none 0 0, .bool false, .int .i64 5]) ∧ Below w.heap.size w w') ∨
  (valid f = 0 ∧ isPl f p = true ∧ ∃ k b A c, Stop f p k b ∧ r = .returned (.tuple #[.slice A k c, .bool b, .int .i64 0]) ∧ Reads w' w'.heap.size 2 A k (plcs (pth f p k)) ∧ Below w.heap.size w w')

theorem plcs_snoc (f : Fld) (p : Plc) (k : Nat) : plcs (pth f p (k + 1)) = plcs (pth f p k) ++ pcells (itn f p k) := by rw [pth_succ, plcs_append]; simp [plcs]
def stepsA : Array Value := #[.int .i64 1, .int .i64 0, .int .i64 1, .int .i64 1, .int .i64 0, .int .i64 1, .int .i64 (-1), .int .i64 1, .int .i64 (-1), .int .i64 0, .int .i64 (-1), .int .i64 (-1), .int .i64 0, .int .i64 (-1), .int .i64 1, .int .i64 (-1)]
theorem stepsA_get {d : Int} (h0 : 0 ≤ d) (h1 : d ≤ 7) : stepsA[d.toNat * 2]? = some (.int .i64 (dX d)) ∧ stepsA[d.toNat * 2 + 1]? = some (.int .i64 (dY d)) := by
  have h : ∀ n : Fin 8, stepsA[n.1 * 2]? = some (.int .i64 (dxs.getD n.1 0)) ∧ stepsA[n.1 * 2 + 1]? = some (.int .i64 (dys.getD n.1 0)) := by
    intro n
    match n with
    | ⟨0, _⟩ => exact ⟨rfl, rfl⟩
    | ⟨1, _⟩ => exact ⟨rfl, rfl⟩
    | ⟨2, _⟩ => exact ⟨rfl, rfl⟩
    | ⟨3, _⟩ => exact ⟨rfl, rfl⟩
    | ⟨4, _⟩ => exact ⟨rfl, rfl⟩
    | ⟨5, _⟩ => exact ⟨rfl, rfl⟩
    | ⟨6, _⟩ => exact ⟨rfl, rfl⟩
    | ⟨7, _⟩ => exact ⟨rfl, rfl⟩
  exact h ⟨d.toNat, by omega⟩
theorem ix84 {b : Nat} {d : Int} (h0 : 0 ≤ d) (h1 : d ≤ 7) (w : World) : (Instr.indexAt 84 (.pointer (some ⟨b, 0, none⟩)) (.int .i64 d)).run Try.prog w = .ok (.pointer (some ⟨b, d.toNat * 2, none⟩)) w := by
  have hl : (Try.prog.arrayLen 84 : Int) = 8 := by kernel_rfl
  have hs : (sizeOf (Try.prog.elem 84)).run Try.prog w = .ok 2 w := by kernel_rfl
  rw [run_indexAt_array w 84 ⟨b, 0, none⟩ .i64 d (by kernel_rfl), hl, if_pos (by omega), hs]
  simp only [Result.andThen, Addr.add]
  split
  · rename_i h; rw [h]
  · simp
def lenOf : Value → Nat
  | .slice _ n _ => n
  | _ => 0
set_option maxRecDepth 4000 in
theorem Comb_any (v : FV) (p : Plc) (w : World) (hv : v.In w) : Calls Try.prog 31 #[v.val, .int .i64 p.1, .int .i64 p.2] w (RetComb v.f p w) := by
  have HVv := Lib.hid hv
  clear hv
  go_enter Try.func31, Try.ntmps31
  dsimp only [FV.val, eval_]
  go_wp2_with fail
  go_step3
  go_wp2_with fail
  refine (validate_any v _ (HVv.out.below (belowA _ _))).mono ?_
  rintro r w1 ⟨rfl, hb1⟩
  have b0 := (Box.new _ _ _).below hb1
  have hw1 := Lib.hid (below1 _ hb1)
  clear hb1
  by_cases hz : valid v.f = 0
  case neg =>
    have hz' : (valid v.f != 0) = true := by simpa using hz
    have HZ := Lib.hid hz
    clear hz
    go_wp2_with fail
    try rw [Exit.noGoto_ret]
    go_ret3
    exact .inl ⟨HZ.out, rfl, hw1.out⟩
  have ok := Lib.hid (okf_of_valid hz)
  have hz' : (valid v.f != 0) = false := by simpa using hz
  have HZ := Lib.hid hz
  clear hz
  have c0 := b0.at
  go_wp2_with fail
  clear c0
  refine (has_any v p.1 p.2 _).mono ?_
  rintro r w2 ⟨rfl, hb2⟩
  replace b0 := b0.below hb2
  replace hw1 := Lib.hid (below_trans' hw1.out hb2)
  clear hb2
  cases hp : isP v.f.W v.f.H p.1 p.2
  · have HP := Lib.hid hp
    clear hp
    go_wp2_with fail
    try rw [Exit.noGoto_ret]
    go_ret3
    exact .inr (.inl ⟨HZ.out, HP.out, rfl, hw1.out⟩)
  have HP := Lib.hid hp
  clear hp
  go_wp2_with fail
  go_step3
  go_wp2_with fail
  refine wp_gen (fun W => ∃ wA, Below w2.heap.size w2 wA ∧ Box wA w.heap.size #[.int .i64 v.f.W, .int .i64 v.f.H, .slice v.A v.n v.c, .slice v.B v.m v.d] ∧ Box wA w2.heap.size stepsA ∧ BInv 35 2 wA W (w2.heap.size + 1) (w2.heap.size + 2) #[.int .i64 p.1, .int .i64 p.2] (.slice none 0 0) 0 []) ⟨w2.alloc (.cells stepsA 84), belowA _ _, b0.alloc _, Box.new _ _ _, by have := BInv.start 35 2 (w2.alloc (.cells stepsA 84)) #[.int .i64 p.1, .int .i64 p.2] 35; rw [World.size_alloc] at this; exact this⟩ ?_
  rintro W0 ⟨wA, hbA, bf, bs, hinv0⟩
  have HI0 := Lib.hid hinv0
  have hwA := Lib.hid (below_trans' hw1.out hbA)
  have HVA := Lib.hid (HVv.out.below hwA.out)
  clear hinv0 hbA b0
  go_loopw [6, 7] (fun out ci wr => ∃ k : Nat, Goes v.f p (k + 1) ∧ ci = .bool false ∧ lenOf out = k ∧ BInv 35 2 wA wr (w2.heap.size + 1) (w2.heap.size + 2) #[.int .i64 (itn v.f p k).1, .int .i64 (itn v.f p k).2] out k (plcs (pth v.f p k))) (fun out _ _ => (v.f.W * v.f.H).toNat - lenOf out)
  case atStart => exact ⟨0, (Goes.zero _ _).succ HP.out (by simp [pth]), rfl, rfl, HI0.out⟩
  case round =>
    obtain ⟨k, hgo, rfl, hlen, hinv0⟩ := hrel
    have HGO := Lib.hid hgo
    have HLEN := Lib.hid hlen
    have HI := Lib.hid hinv0
    have hw12 := ok.out.w2
    have hh12 := ok.out.h2
    have hw11 := ok.out.w1
    have hh11 := ok.out.h1
    have hklen := hgo.len (by omega) (by omega)
    have hkl : (k : Int) + 1 ≤ v.f.W * v.f.H := by omega
    have hmul : v.f.W * v.f.H ≤ 144 := by
      have := Int.mul_le_mul hw12 hh12 (by omega) (by omega)
      omega
    have hon := hgo.on k (by omega)
    have HON := Lib.hid hon
    unfold isPl isP at hon
    rw [decide_eq_true_eq] at hon
    have HSU := Lib.hid (show itn v.f p (k + 1) = nxt v.f (itn v.f p k) from rfl)
    obtain ⟨q, hq⟩ : ∃ q, q = itn v.f p k := ⟨_, rfl⟩
    rw [← hq] at hon hinv0 HSU HON HI
    have HQ := Lib.hid hq
    obtain ⟨x0, x1, y0, y1⟩ := hon
    have cb := hinv0.box.at
    have bl := hinv0.bel
    have bsz := Lib.hid bl
    have hlenk : k < 1000000000 := by omega
    clear hgo hlen hinv0 hq hklen hmul
    go_wp2_with (at_builtin; refine wpList_pushB rfl _ _ 45 35 rfl Try.underlying45 info35 rfl (by omega) (by omega) wA _ _ _ _ _ _ _ (pcells q) _ rfl (HI.out.on (belowA _ _)) rfl (Box.new _ _ _) rfl (plcs_one [_]) hlenk ?_; intro v' w' hown'; obtain ⟨A', c', hv', hr'⟩ := hown'.form; subst hv'; have HI2 := Lib.hid hown'; have HR2 := Lib.hid hr'; have cb' := hown'.box.at; have cf' := (bf.below hown'.bel).at; clear hown' hr')
    clear cb bl
    refine (at_any v q.1 q.2 _ (HVA.out.below HI2.out.bel) ok.out.size x0 x1 y0 y1).mono ?_
    rintro r w3 ⟨rfl, hb3⟩
    have HI3 := Lib.hid (HI2.out.on hb3)
    have hdb := dir_bd ok.out q.1 q.2 x0 x1 y0 y1
    have HNX := Lib.hid (show nxt v.f q = (q.1 + dX (v.f.dir q.1 q.2), q.2 + dY (v.f.dir q.1 q.2)) from rfl)
    clear cb' cf' hb3 HR2
    generalize v.f.dir q.1 q.2 = d at hdb HNX ⊢
    obtain ⟨d0, d1⟩ := hdb
    obtain ⟨s1, s2⟩ := stepsA_get d0 d1
    have X := fun w => ix84 (b := w2.heap.size) d0 d1 w
    have cb := HI3.out.box.at
    have cz := HI3.out.fz
    have cb1 := fun o => ((HI3.out.on (belowA _ o)).box).at
    have cz1 := fun o => ((HI3.out.on (belowA _ o)).fz)
    have cs := (bs.below HI3.out.bel).at
    have cf1 := fun o => ((bf.below HI3.out.bel).alloc o).at
    have hne : w.heap.size ≠ w2.heap.size + 1 := by have := hw1.out.size; omega
    obtain ⟨p0, p1⟩ := dX_bd d
    obtain ⟨p2, p3⟩ := dY_bd d
    go_wp2_with fail
    have HI4 := Lib.hid (((HI3.out.on (belowA _ (.cells #[.int .i64 (dX d), .int .i64 (dY d)] 35))).stored (i := 0) (by simp) (.int .i64 (q.1 + dX d))).stored (i := 1) (by simp) (.int .i64 (q.2 + dY d)))
    clear cb cz cb1 cz1 cs cf1 X s1 s2
    refine (has_any v (q.1 + dX d) (q.2 + dY d) _).mono ?_
    rintro r w4 ⟨rfl, hb4⟩
    have HI5 := Lib.hid (HI4.out.on hb4)
    clear hb4 HI4
    obtain ⟨nq, hnq⟩ : ∃ nq : Plc, nq = (q.1 + dX d, q.2 + dY d) := ⟨_, rfl⟩
    have hn1 : q.1 + dX d = nq.1 := by rw [hnq]
    have hn2 : q.2 + dY d = nq.2 := by rw [hnq]
    have HNQ := Lib.hid (show itn v.f p (k + 1) = nq by rw [HSU.out, HNX.out, hnq])
    have hI5 := HI5.out
    simp only [List.setIfInBounds_toArray, List.set_cons_zero, List.set_cons_succ] at hI5
    rw [hn1, hn2] at hI5 ⊢
    replace HI5 := Lib.hid hI5
    clear hI5 hnq hn1 hn2
    have HPS := Lib.hid (show plcs (pth v.f p k) ++ pcells q = plcs (pth v.f p (k + 1)) by rw [plcs_snoc, ← HQ.out])
    cases hp : isP v.f.W v.f.H nq.1 nq.2
    · have HPN := Lib.hid hp
      clear hp
      go_wp2_with fail
      try rw [Exit.noGoto_ret]
      go_ret3
      refine .inr (.inr ⟨HZ.out, HP.out, k + 1, false, A', c', Stop.off' HGO.out (by omega) (by rw [HNQ.out]; exact HPN.out), rfl, ?_, below_trans' hwA.out HI5.out.bel⟩)
      rw [← HPS.out]
      exact Reads.of_own HI5.out.row
    · have HPN := Lib.hid hp
      clear hp
      have cb := HI5.out.box.at
      go_wp2_with fail
      refine (contains_any A' (k + 1) c' (pth v.f p (k + 1)) nq _ (by rw [← HPS.out]; exact Reads.of_own HI5.out.row) (by omega)).mono ?_
      rintro r w5 ⟨rfl, hb5⟩
      have HI6 := Lib.hid (HI5.out.on hb5)
      clear hb5 cb
      cases hc : decide (nq ∈ pth v.f p (k + 1))
      · have HC := Lib.hid (of_decide_eq_false hc)
        clear hc
        go_wp2_with fail
        go_roundw
        case rel =>
          refine ⟨k + 1, HGO.out.succ (by rw [HNQ.out]; exact HPN.out) (by rw [HNQ.out]; exact HC.out), rfl, rfl, ?_⟩
          rw [HNQ.out, ← HPS.out]
          exact HI6.out
        case measure => rw [HLEN.out]; simp only [lenOf]; omega
      · have HC := Lib.hid (of_decide_eq_true hc)
        clear hc
        go_wp2_with fail
        try rw [Exit.noGoto_ret]
        go_ret3
        refine .inr (.inr ⟨HZ.out, HP.out, k + 1, true, A', c', Stop.back' HGO.out (by omega) (by rw [HNQ.out]; exact HPN.out) (by rw [HNQ.out]; exact HC.out), rfl, ?_, below_trans' hwA.out HI6.out.bel⟩)
        rw [← HPS.out]
        exact Reads.of_own HI6.out.row
end Go.Proofs.Ytahmdnboeenfkaa
