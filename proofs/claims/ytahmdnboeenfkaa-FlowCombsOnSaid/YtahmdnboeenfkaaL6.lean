/- Walks: the law FlowWalksBack. -/
import Derived.Test.YtahmdnboeenfkaaW17
import Derived.Test.YtahmdnboeenfkaaW21
import Derived.Test.YtahmdnboeenfkaaPl5
namespace Go.Proofs.Ytahmdnboeenfkaa
open Go.RowKit Go.Sort

/-- One operation of a region that draws: append of what a slice reads, onto an empty row that was made just now. -/
theorem step_copyR {ops : Array Oper} {o : Oper} {a : Act} {K : Act → World → Prop} {Q : Exit → Act → World → Prop} {E : Prop} (hgd : o.guard = none) (s x : Operand) (t e : TypeId)
    (ho : o.op = .call { callee := .builtin .append, args := #[s, x], argTypes := #[t, t] }) {z : Value} {sz bytes : Nat} (ht : Try.prog.underlying t = some (.slice e))
    (hinfo : (Try.prog.info? e).map (fun i => (i.zero, i.size, i.bytes)) = some (some z, sz, bytes)) (hzs : z.cells.size = sz) (hsz : 0 < sz) (hby : bytes ≤ 1000)
    (w0 : World) (hs : a.eval s = .slice (some ⟨w0.heap.size, 0, none⟩) 0 0)
    {A : Option Addr} {m c : Nat} {news : List Value} (hx : a.eval x = .slice A m c) (hr : Reads w0 w0.heap.size sz A m news) (h0 : 0 < m) (h1 : ∀ u ∈ news, u.oneCell' = true) (hlen : m ≤ 1000000000)
    (h : ∀ A' c' w', Reads w' w'.heap.size sz A' m news → Below w0.heap.size w0 w' → K (a.put o.dst (.slice A' m c')) w') :
    if Region.wanted o (yielded ops a.tmps) = true then Oper.wp Try.prog o a (w0.alloc (.cells #[] e)).drew K Q else E := by
  have hw : Region.wanted o (yielded ops a.tmps) = true := by simp [Region.wanted, hgd]
  rw [if_pos hw]
  obtain ⟨i0, hi, hz0, hz1, hz2⟩ := info_parts hinfo
  obtain ⟨ad, rfl, hB, hc⟩ := ((hr.on (belowA w0 (.cells #[] e))).drew).look h0
  refine wp_append_own (w0.alloc (.cells #[] e)).drew s x t ho w0.heap.size e i0 _ sz bytes ht hi hz0 hz1 hz2 hzs hsz _ 0 [] hs (World.ownsRow_made w0 #[] 0 (Nat.le_refl _) (Nat.zero_le _) (by simp)).drew ad m c news hx hr.len hc h1 ?_ ?_ (by simp) ?_
  · unfold maxLen; omega
  · have := Nat.mul_le_mul (show 0 + m ≤ 1000000000 by omega) hby
    omega
  · intro v' w' h1 h2 _
    have hb : Below w0.heap.size w0 w' := (belowA w0 (.cells #[] e)).drew.grown h2 (by simp) (fun k hk => by simp [Value.ownBlock] at hk; omega)
    rw [Nat.zero_add, List.nil_append] at h1
    obtain ⟨A2, c2, rfl⟩ := row_form h1
    exact h A2 c2 w' (Reads.of_own h1) hb

theorem take_rev {l : List Plc} {n k : Nat} {q : Plc} (hn : l.length = n) (hk : k < n) (hx : l[n - 1 - k]? = some q) : l.reverse.take (k + 1) = l.reverse.take k ++ [q] := by
  subst hn
  rw [List.take_succ_eq_append_getElem (by simpa using hk), List.getElem_reverse]
  rw [List.getElem?_eq_getElem (by omega)] at hx
  rw [Option.some.inj hx]
theorem uwrap_mod (cut : Int) {n : Nat} (h0 : 0 < n) (h1 : n ≤ 1000000000) : ∃ K : Nat, K < n ∧ wrap64 ((IntKind.u64.wrap cut).tmod (n : Int)) = (K : Int) := by
  have hu : 0 ≤ IntKind.u64.wrap cut := by
    unfold IntKind.wrap
    simp [IntKind.bits, IntKind.signed]
    exact Int.emod_nonneg _ (by omega)
  have a := Int.emod_nonneg (IntKind.u64.wrap cut) (show (n : Int) ≠ 0 by omega)
  have b := Int.emod_lt_of_pos (IntKind.u64.wrap cut) (show (0 : Int) < n by omega)
  rw [Int.tmod_eq_emod_of_nonneg hu, IntWalk.wrap64_in _ (by omega)]
  exact ⟨(IntKind.u64.wrap cut % (n : Int)).toNat, by omega, by omega⟩
theorem ws_bd (f : Fld) (l : List Plc) : -(4 * (l.length : Int)) ≤ ws f l ∧ ws f l ≤ 4 * (l.length : Int) := by
  have := wsum_bd f l l.length
  rwa [wsum_eq] at this
set_option maxRecDepth 100000 in
theorem lawWalksBack (v : FV) (A : Option Addr) (n c : Nat) (l : List Plc) (cut : Int) (w : World) (hv : v.In w) (hl : Reads w w.heap.size 2 A n (plcs l)) (hn : n ≤ 9223372036854775807) (hc : n ≤ c) :
    Calls Try.prog 7 #[v.val, .slice A n c, .int .i64 cut] w fun r w' => r = .returned (.bool true) ∧ Below w.heap.size w w' := by
  have HV := Lib.hid hv
  have HL := Lib.hid hl
  have hlen := hl.1
  rw [plcs_length] at hlen
  have l1 : n ≤ l.length := by omega
  have l2 : l.length ≤ n := by omega
  clear hv hl hlen
  go_enter Try.func7, Try.ntmps7
  dsimp only [FV.val, eval_]
  go_wp2_with fail
  refine (long_any v _ (HV.out.below (belowA _ _))).mono ?_
  rintro r w1 ⟨rfl, hb1⟩
  have b0 := (Box.new _ _ _).below hb1
  have hw1 := Lib.hid (below1 _ hb1)
  clear hb1
  cases hlong : longF v.f
  case true =>
    go_wp2_with fail
    refine (known_any _).mono ?_
    rintro r w2 ⟨rfl, hb2⟩
    go_wp2_with fail
    go_ret
    exact ⟨rfl, below_trans' hw1.out hb2⟩
  clear hlong
  by_cases hmany : 1100 < n
  · go_wp2_with fail
    refine (known_any _).mono ?_
    rintro r w2 ⟨rfl, hb2⟩
    go_wp2_with fail
    go_ret
    exact ⟨rfl, below_trans' hw1.out hb2⟩
  have c0 := b0.at
  go_wp2_with fail
  refine (Walk_any v A n c l _ (HV.out.below hw1.out) (HL.out.on hw1.out) hn).mono ?_
  rintro r w2 ⟨rfl, hb2⟩
  clear c0
  replace b0 := b0.below hb2
  replace hw1 := Lib.hid (below_trans' hw1.out hb2)
  clear hb2
  by_cases he : (walkR v.f l).2 = 0 ∧ 0 < n
  case neg =>
    have hz : (walkR v.f l).1 = 0 := by
      by_cases h2 : (walkR v.f l).2 = 0
      · have hl0 : l = [] := List.eq_nil_of_length_eq_zero (by omega)
        rw [walkR_of (walks_of h2), hl0]; rfl
      · exact walkR_err h2
    rw [hz]
    by_cases h2 : (walkR v.f l).2 = 0
    · have h3 : n = 0 := by omega
      have g2 : ((walkR v.f l).2 != 0) = false := by simpa using h2
      clear he hz h2
      have H3 := Lib.hid h3
      have h4 : n ≤ 0 := by omega
      clear h3
      go_wp2_with fail
      refine (known_any _).mono ?_
      rintro r w3 ⟨rfl, hb2⟩
      go_wp2_with fail
      go_ret
      exact ⟨rfl, below_trans' hw1.out hb2⟩
    · have g2 : ((walkR v.f l).2 != 0) = true := by simpa using h2
      clear he hz h2
      go_wp2_with fail
      refine (known_any _).mono ?_
      rintro r w3 ⟨rfl, hb2⟩
      go_wp2_with fail
      go_ret
      exact ⟨rfl, below_trans' hw1.out hb2⟩
  obtain ⟨he, hn0⟩ := he
  have HW := Lib.hid (walks_of he)
  have g2 : ((walkR v.f l).2 != 0) = false := by simpa using he
  have HE := Lib.hid he
  have HS := Lib.hid (walkR_of HW.out)
  clear he
  obtain ⟨N, hN⟩ : ∃ N, N = ws v.f l := ⟨_, rfl⟩
  rw [HS.out]
  rw [← hN]
  have HNN := Lib.hid hN
  have g3 : ((n : Int) == 0) = false := by rw [beq_eq_false_iff_ne]; omega
  clear hN g2
  go_wp2_with fail
  have HV2 := Lib.hid (HV.out.below hw1.out)
  have HL2 := Lib.hid (HL.out.on hw1.out)
  go_loopw [9, 10] (fun out i wr => ∃ k : Nat, k ≤ n ∧ i = .int .i64 ((n : Int) - 1 - k) ∧ OwnX 35 2 w2 wr out k (plcs (l.reverse.take k))) (fun _ i _ => (intOf i + 1).toNat)
  case atStart => exact ⟨0, by omega, by go_num, OwnX.nil _ _ _⟩
  case round =>
    obtain ⟨k, hk, rfl, hown0⟩ := hrel
    have hown := Lib.hid hown0
    have b2 := b0.below hown0.bel
    clear hown0
    by_cases hlt : k < n
    · obtain ⟨ad, q, e1, hbk, hx0, d0, d1⟩ := plat (HL2.out.on hown.out.bel) (k := n - 1 - k) (by omega)
      have X := fun w => ix45 (c := c) e1 (show n - 1 - k < n by omega) w
      rw [show ((n - 1 - k : Nat) : Int) = (n : Int) - 1 - k by omega] at X
      have hx := Lib.hid hx0
      have hlen : k < 1000000000 := by omega
      clear hx0 e1
      go_wp2_with (at_builtin; refine wpList_pushX rfl _ _ 45 35 rfl Try.underlying45 info35 rfl (by omega) (by omega) w2 _ _ _ _ (pcells q) _ rfl (hown.out.on (belowA _ _)) rfl (Box.new _ _ _) rfl (plcs_one [_]) hlen ?_; intro v' w' hown'; have hown5 := Lib.hid hown'; clear hown')
      go_roundw
      case rel =>
        exact ⟨k + 1, by omega, by go_num, by rw [take_rev (by omega) hlt hx.out, plcs_append]; simpa [plcs] using hown5.out⟩
      case measure => simp [intOf]; omega
    · have hkn : k = n := by omega
      subst hkn
      obtain ⟨B, cb, hv, hr⟩ := hown.out.form
      rw [List.take_of_length_le (by simp; omega)] at hr
      have HR := Lib.hid hr
      clear hr
      subst hv
      have HVr := Lib.hid (HV2.out.below hown.out.bel)
      have HLr := Lib.hid (HL2.out.on hown.out.bel)
      have hwr := Lib.hid (below_trans' hw1.out hown.out.bel)
      obtain ⟨K, hK, hKe⟩ := uwrap_mod cut hn0 (by omega)
      have HSR := Lib.hid (walkR_of HW.out.rev)
      have hsr := Lib.hid (ws_rev v.f l).1
      have c0 := b2.at
      clear hown
      go_wp2_with fail
      refine (Walk_any v B k cb l.reverse _ HVr.out HR.out hn).mono ?_
      rintro r w3 ⟨rfl, hb3⟩
      rw [HSR.out, hsr.out, ← HNN.out]
      clear c0
      replace b2 := b2.below hb3
      replace hwr := Lib.hid (below_trans' hwr.out hb3)
      replace HVr := Lib.hid (HVr.out.below hb3)
      replace HLr := Lib.hid (HLr.out.on hb3)
      clear hb3
      go_wp2_with fail
      have HKE := Lib.hid hKe
      have hK1 : (0 : Int) ≤ (K : Int) := by omega
      have hK2 : (K : Int) + 1 ≤ (c : Int) := by omega
      have hK3 : (0 : Int) ≤ (K : Int) + 1 := by omega
      have hK5 : ((K : Int) + 1).toNat = K + 1 := by omega
      have hm0 : 0 < K + 1 := by omega
      have hm1 : K + 1 ≤ 1000000000 := by omega
      have hm2 : K + 1 ≤ 9223372036854775807 := by omega
      have c0 := b2.at
      clear hKe
      have HT := Lib.hid (show Reads w3 w3.heap.size 2 A (K + 1) (plcs (l.take (K + 1))) by have := HLr.out.take (show K + 1 ≤ k by omega); rwa [plcs_take] at this)
      have HD := Lib.hid (show Reads w3 w3.heap.size 2 (A.map (·.add (K * 2))) (k - K) (plcs (l.drop K)) by have := HLr.out.cut (show K ≤ k by omega) hc; rwa [plcs_drop, if_neg (by omega)] at this)
      have HR1 := Lib.hid (walkR_of (HW.out.fst (show K < l.length by omega)))
      have HR2 := Lib.hid (walkR_of (HW.out.snd (show K < l.length by omega)))
      have HSP := Lib.hid (ws_split v.f (show K < l.length by omega))
      have hK4 : IntKind.i64.wrap ((K : Int) + 1) = (K : Int) + 1 := IntWalk.i64_in _ (by omega)
      go_region_held3 (fun w' => ∀ i, w'.cell? ⟨w.heap.size, i, none⟩ = (#[.int .i64 v.f.W, .int .i64 v.f.H, .slice v.A v.n v.c, .slice v.B v.m v.d] : Array Value)[i]?) (first | exact c0 | exact (b2.alloc _).at | exact ck | exact ck5)
        (first
          | (refine step_copyR (by rfl) _ _ 45 35 (by rfl) Try.underlying45 info35 rfl (Nat.succ_pos _) (by decide) w3 (by rfl) (by rfl) HT.out hm0 (plcs_one _) hm1 ?_; intro A2 c2 w4 hr hb; have HR4 := Lib.hid hr; have HB4 := Lib.hid hb; have ck := (b2.below hb).at; clear hr hb)
          | (go_at_call 29; refine (Walk_any v A2 (K + 1) c2 (l.take (K + 1)) _ (HVr.out.below HB4.out) HR4.out hm2).mono ?_; rintro r w5 ⟨rfl, hb5⟩; have HB5 := Lib.hid (below_trans' HB4.out hb5); have ck5 := (b2.below HB5.out).at; clear hb5))
      rw [HR1.out]
      clear c0 ck ck5 hK4 HT
      replace b2 := b2.below HB5.out
      replace hwr := Lib.hid (below_trans' hwr.out HB5.out)
      replace HVr := Lib.hid (HVr.out.below HB5.out)
      replace HD := Lib.hid (HD.out.on HB5.out)
      clear HB4 HR4 HLr HB5
      have hK2 : (K : Int) ≤ (k : Int) := by omega
      have hK3 : (k : Int) ≤ (c : Int) := by omega
      have hK4 : (c : Int) ≠ (K : Int) := by omega
      have hK6 : c ≠ K := by omega
      have hm0 : 0 < k - K := by omega
      have hm1 : k - K ≤ 1000000000 := by omega
      have hm2 : k - K ≤ 9223372036854775807 := by omega
      have c0 := b2.at
      go_wp2_with fail
      go_region_held3 (fun w' => ∀ i, w'.cell? ⟨w.heap.size, i, none⟩ = (#[.int .i64 v.f.W, .int .i64 v.f.H, .slice v.A v.n v.c, .slice v.B v.m v.d] : Array Value)[i]?) (first | exact c0 | exact (b2.alloc _).at | exact ck | exact ck5)
        (first
          | (refine step_copyR (by rfl) _ _ 45 35 (by rfl) Try.underlying45 info35 rfl (Nat.succ_pos _) (by decide) w5 (by rfl) (by rfl) HD.out hm0 (plcs_one _) hm1 ?_; intro A3 c3 w6 hr hb; have HR6 := Lib.hid hr; have HB6 := Lib.hid hb; have ck := (b2.below hb).at; clear hr hb)
          | (go_at_call 29; refine (Walk_any v A3 (k - K) c3 (l.drop K) _ (HVr.out.below HB6.out) HR6.out hm2).mono ?_; rintro r w7 ⟨rfl, hb7⟩; have HB7 := Lib.hid (below_trans' HB6.out hb7); have ck5 := (b2.below HB7.out).at; clear hb7))
      rw [HR2.out]
      clear c0 ck ck5
      have hw7 := Lib.hid (below_trans' hwr.out HB7.out)
      have HL7 := Lib.hid (HL.out.on hw7.out)
      clear b2 hwr HVr HD HB6 HR6 HB7 hK1 hK2 hK3 hK4 hK5 hK6 hm0 hm1 hm2 HKE
      have nb := ws_bd v.f l
      rw [← HNN.out] at nb
      have n0 : -5000 ≤ N := by omega
      have n1 : N ≤ 5000 := by omega
      have ab := ws_bd v.f (l.take (K + 1))
      have bb := ws_bd v.f (l.drop K)
      rw [List.length_take] at ab
      rw [List.length_drop] at bb
      have hsp := HSP.out
      rw [← HNN.out] at hsp
      generalize ws v.f (l.take (K + 1)) = a at ab hsp ⊢
      generalize ws v.f (l.drop K) = b at bb hsp ⊢
      have a0 : -5000 ≤ a := by omega
      have a1 : a ≤ 5000 := by omega
      have b0' : -5000 ≤ b := by omega
      have b1' : b ≤ 5000 := by omega
      have q1 : (a + b == N) = true := by rw [beq_iff_eq]; exact hsp
      obtain ⟨ad, p0, e1, hbk, hx0, d0, d1⟩ := plat HL7.out (k := 0) (by omega)
      obtain ⟨ad', p1, e1', hbk', hx0', d0', d1'⟩ := plat HL7.out (k := k - 1) (by omega)
      obtain rfl : ad = ad' := Option.some.inj (e1.symm.trans e1')
      have X0 : ∀ w, (Instr.indexAt 45 (.slice A k c) (.int .i64 0)).run Try.prog w = .ok (.pointer (some ad)) w := fun w => by
        have := ix45 (c := c) e1 hn0 w
        rwa [show ad.add (0 * 2) = ad by simp [Addr.add]] at this
      have X1 : ∀ w, (Instr.indexAt 45 (.slice A k c) (.int .i64 ((k : Int) - 1))).run Try.prog w = .ok (.pointer (some (ad.add ((k - 1) * 2)))) w := fun w => by
        have := ix45 (c := c) e1 (show k - 1 < k by omega) w
        rwa [show ((k - 1 : Nat) : Int) = (k : Int) - 1 by omega] at this
      have ha0 : ad.add (0 * 2) = ad := by simp [Addr.add]
      rw [ha0] at d0 d1
      have hcl := Lib.hid (fun h : p0 = p1 => HW.out.closed (p := p0) hx0 (by rw [show l.length = k by omega, hx0', h]))
      have f0 := rg_cell d0
      have f1 := rg_cell d1
      have f2 := rg_cell d0'
      have f3 := rg_cell d1'
      have g1 := eqg35 .neq
      have g2 := neq35 p0 p1
      clear nb ab bb hsp e1 e1' hx0 hx0' d0 d1 d0' d1' b0 HSP HR1 HR2 HS HE
      dsimp only
      cases hq : eqP p0 p1
      case' true =>
        have hm := hcl.out (eqP_iff.1 hq)
        rw [← HNN.out] at hm
        have hm1 : (N.tmod 4 == 0) = true := by rw [beq_iff_eq]; exact hm
        clear hm
      all_goals
        clear hcl
        go_wp2_with fail
        refine wp_region_qb mixed (by kernel_rfl) ?_
        repeat (go_big_quiet_step (exact rg_call (fun w _ => known_any w) _ _))
        refine wpQuiet_nil ?_
        intro w8 hb8
        go_wp2_with fail
        go_ret
        exact ⟨rfl, below_trans' hw7.out hb8⟩
theorem lawWalksBackR (v : FV) (A : Option Addr) (n c : Nat) (l : List Plc) (cut : Int) (w : World) (hv : v.In w) (hl : (Reads w w.heap.size 2 A n (plcs l) ∧ n ≤ 9223372036854775807 ∧ ∀ q ∈ l, Bd q.1 ∧ Bd q.2) ∧ n ≤ c) (_ : Bd cut) :
    Calls Try.prog 7 #[v.val, .slice A n c, .int .i64 cut] w fun r w' => r = .returned (.bool true) ∧ Below w.heap.size w w' := lawWalksBack v A n c l cut w hv hl.1.1 hl.1.2.1 hl.2
end Go.Proofs.Ytahmdnboeenfkaa
