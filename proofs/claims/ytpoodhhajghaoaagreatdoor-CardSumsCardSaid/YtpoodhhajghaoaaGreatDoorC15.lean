/- Walks: the entries of two cards parted, the program's. -/
import Derived.Test.YtpoodhhajghaoaaGreatDoorC14
namespace Go.Proofs.YtpoodhhajghaoaaGreatDoor
open Go.RowKit Go.Sort

/-- Two rows of the call's own, apart from each other. -/
structure Two (w0 : World) (l1 l2 : List Ent) (w : World) (v1 v2 : Value) : Prop where
  one : Held w0 l1 w v1
  two : Held w0 l2 w v2
  apart : ∀ k, v1.ownBlock = some k → v2.ownBlock ≠ some k
section
variable {w0 w w' : World} {l1 l2 : List Ent} {v1 v2 : Value}
theorem Two.nil (hb : Below w0.heap.size w0 w) : Two w0 [] [] w (.slice none 0 0) (.slice none 0 0) := ⟨Held.nil hb, Held.nil hb, fun _ h => by cases h⟩
theorem Two.on (h : Two w0 l1 l2 w v1 v2) (hb : Below w.heap.size w w') : Two w0 l1 l2 w' v1 v2 := ⟨h.one.on hb, h.two.on hb, h.apart⟩
theorem Two.bel (h : Two w0 l1 l2 w v1 v2) : Below w0.heap.size w0 w := h.one.bel
theorem Two.swap (h : Two w0 l1 l2 w v1 v2) : Two w0 l2 l1 w v2 v1 := ⟨h.two, h.one, fun k h1 h2 => h.apart k h2 h1⟩
end
theorem box_reads {w : World} {b : Nat} {e : Ent} (h : Box w b (ecells e).toArray) : Reads w w.heap.size 6 (some ⟨b, 0, none⟩) 1 (ecells e) := by
  refine ⟨rfl, fun _ => ⟨_, rfl, h.1, fun j u hj => ?_⟩⟩
  have e1 : (⟨b, 0, none⟩ : Addr).add j = ⟨b, j, none⟩ := by
    unfold Addr.add
    split
    · rename_i h0; rw [h0]
    · simp
  rw [e1, h.at]
  simpa using hj
set_option maxRecDepth 4000 in
/-- Append of one entry onto the first of two rows. -/
theorem wpList_push2 {ops : Array Oper} {rest : List Oper} {o : Oper} {a : Act} {Q : Exit → Act → World → Prop} (hgd : o.guard = none) (s x : Operand)
    (ho : o.op = .call { callee := .builtin .append, args := #[s, x], argTypes := #[22, 22] })
    (w0 w : World) (v1 v2 : Value) (l1 l2 : List Ent) (e : Ent) (b : Nat) (hs : a.eval s = v1) (h2 : Two w0 l1 l2 w v1 v2)
    (hx : a.eval x = .slice (some ⟨b, 0, none⟩) 1 1) (hbox : Box w b (ecells e).toArray) (hlen : l1.length < 1000000000)
    (h : ∀ v' w', Two w0 (l1 ++ [e]) l2 w' v' v2 → wpList Tryz.prog ops Q rest (a.put o.dst v') w') :
    wpList Tryz.prog ops Q (o :: rest) a w := by
  obtain ⟨A, c, rfl, ho1⟩ := h2.one
  obtain ⟨A2, c2, hv2, ho2⟩ := h2.two
  refine wpList_pushXn hgd s x 22 38 ho Tryz.underlying22 info53b rfl (by omega) (by omega) w0.heap.size w A l1.length c (ents l1) (some ⟨b, 0, none⟩) 1 1 (ecells e) hs ho1.row ho1.bel.size hx (box_reads hbox) (fun h => by cases h) (ecells_one e) (by omega) ?_
  intro A' c' w' r1 g1 hA
  refine h _ w' ⟨⟨A', c', by rw [len_snoc], ?_⟩, ⟨A2, c2, hv2, ?_, ?_⟩, fun k hk hk2 => ?_⟩
  · rw [len_snoc, ents_snoc]
    exact ⟨r1, ho1.bel.grown g1 ho1.bel.size fun k hk => (ho1.row.lt k hk).1⟩
  · refine ho2.row.kept (row := (Value.slice A l1.length c).ownBlock) g1 ?_
    cases hv : (Value.slice A2 l2.length c2).ownBlock with
    | none => exact .inl rfl
    | some k => exact .inr fun hk => h2.apart k hk.symm (by rw [hv2, hv])
  · exact ho1.bel.grown g1 ho1.bel.size fun k hk => (ho1.row.lt k hk).1
  · have l2 := (ho2.row.lt k (hv2 ▸ hk2)).2
    rcases hA with rfl | hA
    · exact h2.apart k (by cases A' <;> exact hk) hk2
    · cases A' with
      | none => cases hk
      | some p =>
        have := hA p rfl
        have e1 : p.block = k := Option.some.inj hk
        omega
theorem results_tmp4 {fn : Func} {t u v x : Tmp} (h : fn.results = #[.tmp t, .tmp u, .tmp v, .tmp x]) (tmps : Array Value) (P : Program) (w : World) :
    (results fn tmps).run P w = .ok (.tuple #[tmps.getD t undef, tmps.getD u undef, tmps.getD v undef, tmps.getD x undef]) w := by
  simp [results, h]
theorem splitIdx_any (q : Nat) (x : Ent) (A : Option Addr) (n c : Nat) (es : List Ent) (w : World) (hb : Box w q #[.int .i64 x.1, .int .i64 x.2.1, .int .i64 x.2.2.1.1, .int .i64 x.2.2.1.2.1, .int .i64 x.2.2.1.2.2, .string x.2.2.2]) (hl : Reads w w.heap.size 6 A n (ents es)) (hn : n ≤ 1000000) :
    Calls Tryz.prog 41 #[.slice A n c, .func (.func 42) #[] #[.pointer (some ⟨q, 0, none⟩)]] w fun r w' => (∃ i : Int, r = .returned (.int .i64 i) ∧ IdxF es (sameKey x) i) ∧ Below w.heap.size w w' ∧ Box w' q #[.int .i64 x.1, .int .i64 x.2.1, .int .i64 x.2.2.1.1, .int .i64 x.2.2.1.2.1, .int .i64 x.2.2.1.2.2, .string x.2.2.2] := by
  refine (indexFunc68_any ⟨q, 0, none⟩ (sameKey x) (fun W => Box W q #[.int .i64 x.1, .int .i64 x.2.1, .int .i64 x.2.2.1.1, .int .i64 x.2.2.1.2.1, .int .i64 x.2.2.1.2.2, .string x.2.2.2]) A n c es w hl hn hb (fun w1 w2 h hb => h.below hb) (fun e _ w1 h => splitF_any q x e w1 h)).mono ?_
  rintro r w' ⟨h1, h2⟩
  exact ⟨h1, h2, hb.below h2⟩
def spl (a b l : List Ent) : List Ent := if val2 a b = 0 then l else []
def RetS (a b : List Ent) (w : World) (r : Ending) (w' : World) : Prop :=
  ∃ v1 v2 v3, r = .returned (.tuple #[v1, v2, v3, .int .i64 (val2 a b)]) ∧ Held w (spl a b (wo a b true)) w' v1 ∧ Held w (spl a b (wo a b false)) w' v2 ∧ Held w (spl a b (wo b a false)) w' v3
theorem RetS.bad {a b : List Ent} {w w' : World} {e : Int} (h : val2 a b ≠ 0) (he : e = val2 a b) (hb : Below w.heap.size w w') : RetS a b w (.returned (.tuple #[.slice none 0 0, .slice none 0 0, .slice none 0 0, .int .i64 e])) w' := by
  refine ⟨_, _, _, by rw [he], ?_⟩
  unfold spl
  rw [if_neg h, if_neg h, if_neg h]
  exact ⟨Held.nil hb, Held.nil hb, Held.nil hb⟩
theorem RetS.good {a b : List Ent} {w w' : World} {v1 v2 v3 : Value} (h : val2 a b = 0) (h2 : Two w (wo a b true) (wo a b false) w' v1 v2) (h3 : Held w (wo b a false) w' v3) : RetS a b w (.returned (.tuple #[v1, v2, v3, .int .i64 0])) w' := by
  refine ⟨_, _, _, by rw [h], ?_⟩
  unfold spl
  rw [if_pos h, if_pos h, if_pos h]
  exact ⟨h2.one, h2.two, h3⟩
theorem wo_in {es fs : List Ent} {k : Nat} {e : Ent} (hT : es.take (k + 1) = es.take k ++ [e]) (he : e ∈ fs) : wo (es.take (k + 1)) fs true = wo (es.take k) fs true ++ [e] ∧ wo (es.take (k + 1)) fs false = wo (es.take k) fs false :=
  ⟨fl_yes _ hT (by simp [he]), fl_no _ hT (by simp [he])⟩
theorem wo_out {es fs : List Ent} {k : Nat} {e : Ent} (hT : es.take (k + 1) = es.take k ++ [e]) (he : e ∉ fs) : wo (es.take (k + 1)) fs false = wo (es.take k) fs false ++ [e] ∧ wo (es.take (k + 1)) fs true = wo (es.take k) fs true :=
  ⟨fl_yes _ hT (by simp [he]), fl_no _ hT (by simp [he])⟩
theorem noP2_snoc {es fs : List Ent} {k : Nat} {e : Ent} (hT : es.take (k + 1) = es.take k ++ [e]) (h : noP2 (es.take k) fs) (h1 : noP1 e fs) : noP2 (es.take (k + 1)) fs := fun f hf => by
  rw [hT] at hf
  rcases List.mem_append.1 hf with hf | hf
  · exact h f hf
  · rw [List.mem_singleton.1 hf]; exact h1
theorem Held.up {w0 w1 w : World} {l : List Ent} {v : Value} (h : Held w1 l w v) (hb : Below w0.heap.size w0 w1) : Held w0 l w v := by
  obtain ⟨A, c, hv, ho⟩ := h
  exact ⟨A, c, hv, row_mono ho.row hb.size, below_trans' hb ho.bel⟩
theorem Held.coll {w0 w : World} {es : List Ent} {f : Ent → Bool} {k : Nat} {v : Value} (h : Coll w0 es f k w v) (hk : es.length ≤ k) : Held w0 (es.filter f) w v := by
  obtain ⟨B, d, hv, hr, hb⟩ := h.all hk
  exact ⟨B, d, hv, hr, hb⟩
set_option maxRecDepth 100000 in
set_option maxHeartbeats 4000000 in
theorem split_any (A B : Option Addr) (n m c d : Nat) (es fs : List Ent) (w : World) (hl : Reads w w.heap.size 6 A n (ents es)) (hm : Reads w w.heap.size 6 B m (ents fs)) (hn : n ≤ 1000000) (hn2 : m ≤ 1000000) (ht : shortT es) (ht2 : shortT fs) :
    Calls Tryz.prog 19 #[.slice A n c, .slice B m d] w (RetS es fs w) := by
  have hlen0 := hl.1
  rw [ents_length] at hlen0
  have hlen1 := hm.1
  rw [ents_length] at hlen1
  have l1 : n ≤ es.length := by omega
  have l2 : es.length ≤ n := by omega
  have l3 : m ≤ fs.length := by omega
  have l4 : fs.length ≤ m := by omega
  have HL := Lib.hid hl
  have HM := Lib.hid hm
  have HT := Lib.hid ht
  have HT2 := Lib.hid ht2
  clear hl hm hlen0 hlen1 ht ht2
  go_enter Tryz.func19, Tryz.ntmps19
  go_wp2_with fail
  with_reducible refine (validate_any A n c es _ HL.out hn HT.out).mono ?_
  rintro _ w2 ⟨rfl, hb2⟩
  have HW2 := Lib.hid hb2
  clear hb2
  by_cases hv : val es = 0
  case neg =>
    have HV := Lib.hid (val2_bad1 (b := fs) hv)
    have HV2 : Hid (val2 es fs ≠ 0) := Lib.hid (by rw [HV.out]; exact hv)
    have g := neB hv
    clear hv
    go_wp2_with fail
    ((try simp only [Exit.inBlock, Exit.then]); refine bodyPost_ret (results_tmp4 rfl _ _ _) rfl ?_)
    exact RetS.bad HV2.out HV.out.symm HW2.out
  have HV := Lib.hid hv
  have g := neBf hv
  clear hv
  go_wp2_with fail
  with_reducible refine (validate_any B m d fs _ (HM.out.on HW2.out) hn2 HT2.out).mono ?_
  rintro _ w3 ⟨rfl, hb3⟩
  have HW3 := Lib.hid (below_trans' HW2.out hb3)
  clear hb3
  by_cases hv2 : val fs = 0
  case neg =>
    have HV2 := Lib.hid (val2_bad2 HV.out hv2)
    have HV3 : Hid (val2 es fs ≠ 0) := Lib.hid (by rw [HV2.out]; exact hv2)
    have g2 := neB hv2
    clear hv2
    go_wp2_with fail
    ((try simp only [Exit.inBlock, Exit.then]); refine bodyPost_ret (results_tmp4 rfl _ _ _) rfl ?_)
    exact RetS.bad HV3.out HV2.out.symm HW3.out
  have HV2 := Lib.hid hv2
  have g2 := neBf hv2
  clear hv2
  go_wp2_with fail
  go_loopw [4, 5, 6, 27] (fun v1 v2 v6 i wr => ∃ k : Nat, k ≤ n ∧ i = .int .i64 k ∧ v6 = .slice none 0 0 ∧ noP2 (es.take k) fs ∧ Two w (wo (es.take k) fs true) (wo (es.take k) fs false) wr v1 v2) (fun _ _ _ i _ => n - (intOf i).toNat)
  case atStart => exact ⟨0, by omega, rfl, rfl, fun e he => by simp at he, Two.nil HW3.out⟩
  case round =>
    clear HW3 HW2
    obtain ⟨k, hk, rfl, rfl, hno, htw⟩ := hrel
    have HNO := Lib.hid hno
    have HTW := Lib.hid htw
    clear hno htw
    by_cases hlt : k < n
    · obtain ⟨ad, x, e1, hbk, hx, d0, d1, d2, d3, d4, d5⟩ := eat (HL.out.on HTW.out.bel) (k := k) (by omega)
      have X := fun w => ix22 (c := c) e1 hlt w
      have HTK := Lib.hid (take_succ_of hx)
      have HXM := Lib.hid (List.mem_of_getElem? hx)
      have hle1 : (wo (es.take k) fs true).length < 1000000000 := by have := wo_le (es.take k) fs true; rw [List.length_take] at this; omega
      have hle2 : (wo (es.take k) fs false).length < 1000000000 := by have := wo_le (es.take k) fs false; rw [List.length_take] at this; omega
      clear hx e1
      go_wp2_with fail
      with_reducible refine (splitIdx_any _ x B m d fs _ (Box.new _ _ _) (HM.out.on (below_trans' HTW.out.bel (belowA _ _))) hn2).mono ?_
      rintro _ w4 ⟨⟨i, rfl, hi⟩, hb4, bx⟩
      have HT4 := Lib.hid (HTW.out.on (below1 _ hb4))
      generalize wr.heap.size = q at bx ⊢
      clear hb4 d0 d1 d2 d3 d4 d5 X HTW hbk
      have cx := bx.at
      rcases hi with ⟨rfl, hnone⟩ | ⟨j, rfl, y, hy, hyx, -⟩
      · have HXN : Hid (x ∉ fs) := Lib.hid fun h => by
          have := hnone x h
          simp [sameKey] at this
        have HW := Lib.hid (wo_out HTK.out HXN.out)
        have HN2 : Hid (noP2 (es.take (k + 1)) fs) := Lib.hid (noP2_snoc HTK.out HNO.out fun f hf hp => by
          have := hnone f hf
          simp [sameKey, hp.1, hp.2.1] at this)
        clear hnone
        go_wp2_with (at_builtin; refine wpList_push2 rfl _ _ rfl w _ _ _ _ _ x _ rfl (HT4.out.swap.on (belowA _ _)) rfl (Box.new _ _ _) hle2 ?_; intro v' w' hown'; have hown5 := Lib.hid hown'; clear hown')
        clear cx bx
        go_roundw
        case rel => exact ⟨k + 1, by omega, by go_num, rfl, HN2.out, by rw [HW.out.1, HW.out.2]; exact hown5.out.swap⟩
        case measure => simp [intOf]; omega
      · have HYM := Lib.hid (List.mem_of_getElem? hy)
        have hjm : j < m := by
          rcases Nat.lt_or_ge j fs.length with h | h
          · omega
          · rw [List.getElem?_eq_none h] at hy; cases hy
        have HYX : Hid (x.1 = y.1 ∧ x.2.1 = y.2.1) := Lib.hid (by simpa [sameKey] using hyx)
        clear hyx
        have hj0 : ¬ (j : Int) < 0 := by omega
        obtain ⟨ad', y', e1', hbk', hy', q0, q1, q2, q3, q4, q5⟩ := eat (HM.out.on HT4.out.bel) (k := j) (by omega)
        obtain rfl : y = y' := Option.some.inj (hy.symm.trans hy')
        have Y := fun w => ix22 (n := m) (c := d) e1' hjm w
        have g3 := eqg53 .neq
        have g4 := neq53 y x
        clear hy hy' e1' hbk'
        by_cases hyx : y = x
        · have HW := Lib.hid (wo_in HTK.out (hyx ▸ HYM.out))
          have HN2 : Hid (noP2 (es.take (k + 1)) fs) := Lib.hid (noP2_snoc HTK.out HNO.out fun f hf hp => hp.2.2 (by
            subst hyx
            exact sorted_inj (val_zero.1 HV2.out).sorted HYM.out hf hp.1 hp.2.1))
          rw [eqN_iff.2 hyx] at g4
          clear hyx
          go_wp2_with fail
          go_quiet (fail)
          go_wp2_with (at_builtin; refine wpList_push2 rfl _ _ rfl w _ _ _ _ _ x _ rfl (HT4.out.on (below_drewN' (belowA _ _) _)) rfl (Box.new _ _ _) hle1 ?_; intro v' w' hown'; have hown5 := Lib.hid hown'; clear hown')
          clear cx bx
          go_roundw
          case rel => exact ⟨k + 1, by omega, by go_num, rfl, HN2.out, by rw [HW.out.1, HW.out.2]; exact hown5.out⟩
          case measure => simp [intOf]; omega
        · have HB := Lib.hid (val2_part HV.out HV2.out HXM.out HYM.out ⟨HYX.out.1, HYX.out.2, fun h => hyx h.symm⟩)
          rw [eqN_not.2 hyx] at g4
          clear hyx
          go_wp2_with fail
          go_quiet (fail)
          go_wp2_with fail
          ((try simp only [Exit.inBlock, Exit.then]); refine bodyPost_ret (results_tmp4 rfl _ _ _) rfl ?_)
          exact RetS.bad (by rw [HB.out]; decide) HB.out.symm (below_drewN' HT4.out.bel _)
    · have HF := Lib.hid (val2_ok HV.out HV2.out (by have := HNO.out; rwa [List.take_of_length_le (by omega)] at this))
      have htw := HTW.out
      rw [List.take_of_length_le (by omega)] at htw
      have HTW2 := Lib.hid htw
      clear htw HTW HNO
      go_wp2_with fail
      go_loopw [6, 55] (fun v3 i wr2 => ∃ j : Nat, j ≤ m ∧ i = .int .i64 j ∧ Coll wr fs (fun e => decide (e ∈ es) == false) j wr2 v3) (fun _ i _ => m - (intOf i).toNat)
      case atStart => exact ⟨0, by omega, rfl, Coll.nil⟩
      case round =>
        obtain ⟨j, hj, rfl, hown⟩ := hrel
        have HOWN := Lib.hid hown
        clear hown
        by_cases hltj : j < m
        · obtain ⟨ad, y, e1, hbk, hy, d0, d1, d2, d3, d4, d5⟩ := eat (HM.out.on (below_trans' HTW2.out.bel HOWN.out.bel)) (k := j) (by omega)
          have X := fun w => ix22 (c := d) e1 hltj w
          have HTJ := Lib.hid (take_succ_of hy)
          have hle := fl_le fs j (fun e => decide (e ∈ es) == false)
          have hlen : ((fs.take j).filter (fun e => decide (e ∈ es) == false)).length < 1000000000 := by omega
          have HLW := Lib.hid (HL.out.on (below_trans' HTW2.out.bel HOWN.out.bel))
          clear hy e1 hle
          go_wp2_with fail
          with_reducible refine (contains_any A n c es y _ (HLW.out.on (belowA _ _)) hn).mono ?_
          rintro _ w5 ⟨rfl, hb5⟩
          have HOWN2 := Lib.hid (HOWN.out.on (below1 _ hb5))
          have cx := ((Box.new _ _ _).below hb5).at
          clear hb5 d0 d1 d2 d3 d4 d5 X hbk HLW
          by_cases hq : y ∈ es
          · have HF2 : Hid ((fun e : Ent => decide (e ∈ es) == false) y = false) := Lib.hid (by simp [hq])
            rw [decide_eq_true hq]
            clear hq
            go_wp2_with fail
            clear cx
            go_roundw
            case rel => exact ⟨j + 1, by omega, by go_num, Coll.no HTJ.out HF2.out HOWN2.out⟩
            case measure => simp [intOf]; omega
          · have HF2 : Hid ((fun e : Ent => decide (e ∈ es) == false) y = true) := Lib.hid (by simp [hq])
            rw [decide_eq_false hq]
            clear hq
            go_wp2_with (at_builtin; refine wpList_pushX rfl _ _ 22 38 rfl Tryz.underlying22 info53b rfl (by omega) (by omega) _ _ _ _ _ (ecells y) _ rfl (HOWN2.out.own.on (belowA _ _)) rfl (Box.new _ _ _) rfl (ecells_one y) hlen ?_; intro v' w' hown'; have hown5 := Lib.hid hown'; clear hown')
            clear cx
            go_roundw
            case rel => exact ⟨j + 1, by omega, by go_num, Coll.yes HTJ.out HF2.out hown5.out⟩
            case measure => simp [intOf]; omega
        · have HG := Lib.hid (RetS.good HF.out (HTW2.out.on HOWN.out.bel) ((Held.coll HOWN.out (by omega)).up HTW2.out.bel))
          go_wp2_with fail
          ((try simp only [Exit.inBlock, Exit.then]); refine bodyPost_ret (results_tmp4 rfl _ _ _) rfl ?_)
          exact HG.out
end Go.Proofs.YtpoodhhajghaoaaGreatDoor
