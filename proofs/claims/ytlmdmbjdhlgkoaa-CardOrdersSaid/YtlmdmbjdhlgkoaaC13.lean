/- Walks: two cards together, the reference's; one more entry, the reference's. -/
import Derived.Test.YtlmdmbjdhlgkoaaC12
namespace Go.Proofs.Ytlmdmbjdhlgkoaa
open Go.RowKit Go.Sort

def partE (e f : Ent) : Prop := e.1 = f.1 ∧ e.2.1 = f.2.1 ∧ e ≠ f
instance (e f : Ent) : Decidable (partE e f) := by unfold partE; infer_instance
def noP1 (e : Ent) (l : List Ent) : Prop := ∀ f ∈ l, ¬ partE e f
def noP2 (l fs : List Ent) : Prop := ∀ e ∈ l, noP1 e fs
theorem noPart_iff {a b : List Ent} : noPart a b ↔ noP2 a b := by
  unfold noPart noP2 noP1 partE
  constructor
  · intro h e he f hf ⟨h1, h2, h3⟩
    exact h3 (h e he f hf h1 h2)
  · intro h e he f hf h1 h2
    exact Classical.byContradiction fun h3 => h e he f hf ⟨h1, h2, h3⟩
theorem val2_bad1 {a b : List Ent} (h : val a ≠ 0) : val2 a b = val a := if_pos h
theorem val2_bad2 {a b : List Ent} (h : val a = 0) (h2 : val b ≠ 0) : val2 a b = val b := by unfold val2; rw [if_neg (fun h' => h' h), if_pos h2]
theorem val2_part {a b : List Ent} (h : val a = 0) (h2 : val b = 0) {e f : Ent} (he : e ∈ a) (hf : f ∈ b) (hp : partE e f) : val2 a b = 12 := by
  unfold val2
  rw [if_neg (fun h' => h' h), if_neg (fun h' => h' h2), if_neg]
  exact fun hn => noPart_iff.1 hn e he f hf hp
theorem val2_ok {a b : List Ent} (h : val a = 0) (h2 : val b = 0) (hn : noP2 a b) : val2 a b = 0 := by
  unfold val2
  rw [if_neg (fun h' => h' h), if_neg (fun h' => h' h2), if_pos (noPart_iff.2 hn)]
set_option maxRecDepth 100000 in
set_option maxHeartbeats 1000000 in
theorem both_any (A B : Option Addr) (n m c d : Nat) (es fs : List Ent) (w : World) (hl : Reads w w.heap.size 6 A n (ents es)) (hm : Reads w w.heap.size 6 B m (ents fs)) (hn : n ≤ 1000000) (hn2 : m ≤ 1000000) (hnc : n ≤ c) (hmd : m ≤ d) (ht : shortT es) (ht2 : shortT fs) :
    Calls Try.prog 53 #[.slice A n c, .slice B m d] w fun r w' => r = .returned (.int .i64 (val2 es fs)) ∧ Below w.heap.size w w' := by
  have hlen0 := hl.1
  rw [ents_length] at hlen0
  have hlen1 := hm.1
  rw [ents_length] at hlen1
  have l1 : n ≤ es.length := by omega
  have l2 : es.length ≤ n := by omega
  have l3 : m ≤ fs.length := by omega
  have l4 : fs.length ≤ m := by omega
  have HL := Lib.hid hl
  have HM := Lib.hid hm
  have HT := Lib.hid ht
  have HT2 := Lib.hid ht2
  clear hl hm hlen0 hlen1 ht ht2
  go_enter Try.func53, Try.ntmps53
  go_wp2_with fail
  with_reducible refine (refValidate_any A n c es _ HL.out hn hnc HT.out).mono ?_
  rintro _ w2 ⟨rfl, hb2⟩
  have HW2 := Lib.hid hb2
  clear hb2
  by_cases hv : val es = 0
  case neg =>
    have HV := Lib.hid (val2_bad1 (b := fs) hv)
    have g := neB hv
    clear hv
    go_wp2_with fail
    go_ret
    exact ⟨ret_int HV.out.symm, HW2.out⟩
  have HV := Lib.hid hv
  have g := neBf hv
  clear hv
  go_wp2_with fail
  with_reducible refine (refValidate_any B m d fs _ (HM.out.on HW2.out) hn2 hmd HT2.out).mono ?_
  rintro _ w3 ⟨rfl, hb3⟩
  have HW3 := Lib.hid (below_trans' HW2.out hb3)
  clear hb3
  by_cases hv2 : val fs = 0
  case neg =>
    have HV2 := Lib.hid (val2_bad2 HV.out hv2)
    have g2 := neB hv2
    clear hv2
    go_wp2_with fail
    go_ret
    exact ⟨ret_int HV2.out.symm, HW3.out⟩
  have HV2 := Lib.hid hv2
  have g2 := neBf hv2
  clear hv2
  go_wp2_with fail
  go_loopw [6] (fun i wr => ∃ k : Nat, k ≤ n ∧ i = .int .i64 k ∧ noP2 (es.take k) fs ∧ Below w.heap.size w wr) (fun i _ => n - (intOf i).toNat)
  case atStart => exact ⟨0, by omega, rfl, fun e he => by simp at he, HW3.out⟩
  case round =>
    clear HW3
    obtain ⟨k, hk, rfl, hno, hbw⟩ := hrel
    have HNO := Lib.hid hno
    have HBW := Lib.hid hbw
    clear hno hbw
    by_cases hlt : k < n
    · obtain ⟨x, hx⟩ : ∃ x, es[k]? = some x := ⟨_, List.getElem?_eq_getElem (by omega)⟩
      have HX := Lib.hid hx
      have HTK := Lib.hid (take_succ_of hx)
      clear hx
      go_wp2_with fail
      go_loopw [7] (fun i wr => ∃ j : Nat, j ≤ m ∧ i = .int .i64 j ∧ noP1 x (fs.take j) ∧ Below w.heap.size w wr) (fun i _ => m - (intOf i).toNat)
      case atStart => exact ⟨0, by omega, rfl, fun e he => by simp at he, HBW.out⟩
      case round =>
        clear HBW
        obtain ⟨j, hj, rfl, hno, hbw⟩ := hrel
        have HNO1 := Lib.hid hno
        have HBW := Lib.hid hbw
        clear hno hbw
        by_cases hltj : j < m
        · obtain ⟨ad, x', e1, hbk, hx', d0, d1, d2, d3, d4, d5⟩ := eat (HL.out.on HBW.out) (k := k) (by omega)
          obtain rfl : x = x' := Option.some.inj (HX.out.symm.trans hx')
          obtain ⟨ad', y, e1', hbk', hy, q0, q1, q2, q3, q4, q5⟩ := eat (HM.out.on HBW.out) (k := j) (by omega)
          have X := fun w => ix22 (n := n) (c := c) e1 hlt w
          have Y := fun w => ix22 (n := m) (c := d) e1' hltj w
          have HTJ := Lib.hid (take_succ_of hy)
          have HMY := Lib.hid (List.mem_of_getElem? hy)
          have g3 := eqg53 .neq
          have g4 := neq53 x y
          have HP : Hid (partE x y ↔ x.1 = y.1 ∧ x.2.1 = y.2.1 ∧ x ≠ y) := Lib.hid Iff.rfl
          have HNX : Hid (¬ partE x y → noP1 x (fs.take (j + 1))) := Lib.hid fun h f hf => by
            rw [HTJ.out] at hf
            rcases List.mem_append.1 hf with hf | hf
            · exact HNO1.out f hf
            · rw [List.mem_singleton.1 hf]; exact h
          have HBD : Hid (partE x y → val2 es fs = 12) := Lib.hid fun h => val2_part HV.out HV2.out (List.mem_of_getElem? HX.out) HMY.out h
          clear hy hx' e1 e1'
          by_cases h1 : x.1 = y.1
          · by_cases h2 : x.2.1 = y.2.1
            · have t1 : (x.1 == y.1) = true := by simpa using h1
              have t2 : (x.2.1 == y.2.1) = true := by simpa using h2
              by_cases h3 : x = y
              · have HN2 := Lib.hid (HNX.out fun h => (HP.out.1 h).2.2 h3)
                rw [eqN_iff.2 h3] at g4
                clear h1 h2 h3
                go_wp2_with fail
                go_quiet (fail)
                go_wp2_with fail
                go_roundw
                case rel => exact ⟨j + 1, by omega, by go_num, HN2.out, below_drewN' HBW.out _⟩
                case measure => simp [intOf]; omega
              · have HF := Lib.hid (HBD.out (HP.out.2 ⟨h1, h2, h3⟩))
                rw [eqN_not.2 h3] at g4
                clear h1 h2 h3
                go_wp2_with fail
                go_quiet (fail)
                go_wp2_with fail
                go_ret
                exact ⟨ret_int HF.out.symm, below_drewN' HBW.out _⟩
            · have t1 : (x.1 == y.1) = true := by simpa using h1
              have t2 : (x.2.1 == y.2.1) = false := by simpa using h2
              have HN2 := Lib.hid (HNX.out fun h => h2 (HP.out.1 h).2.1)
              clear h1 h2
              go_wp2_with fail
              go_quiet (fail)
              go_wp2_with fail
              go_roundw
              case rel => exact ⟨j + 1, by omega, by go_num, HN2.out, below_drewN' HBW.out _⟩
              case measure => simp [intOf]; omega
          · have t1 : (x.1 == y.1) = false := by simpa using h1
            have HN2 := Lib.hid (HNX.out fun h => h1 (HP.out.1 h).1)
            clear h1
            go_wp2_with fail
            go_quiet (fail)
            go_wp2_with fail
            go_roundw
            case rel => exact ⟨j + 1, by omega, by go_num, HN2.out, below_drewN' HBW.out _⟩
            case measure => simp [intOf]; omega
        · have HN3 : Hid (noP2 (es.take (k + 1)) fs) := Lib.hid fun e he => by
            rw [HTK.out] at he
            rcases List.mem_append.1 he with he | he
            · exact HNO.out e he
            · rw [List.mem_singleton.1 he]
              have := HNO1.out
              rwa [List.take_of_length_le (by omega)] at this
          go_wp2_with fail
          go_roundw
          case rel => exact ⟨k + 1, by omega, by go_num, HN3.out, HBW.out⟩
          case measure => simp [intOf]; omega
    · have HF := Lib.hid (val2_ok HV.out HV2.out (by have := HNO.out; rwa [List.take_of_length_le (by omega)] at this))
      go_wp2_with fail
      go_ret
      exact ⟨ret_int HF.out.symm, HBW.out⟩
set_option maxRecDepth 4000 in
/-- Append of what a slice reads onto the call's own row. -/
theorem wpList_pushO {ops : Array Oper} {rest : List Oper} {o : Oper} {a : Act} {Q : Exit → Act → World → Prop} (hgd : o.guard = none) (s x : Operand)
    (ho : o.op = .call { callee := .builtin .append, args := #[s, x], argTypes := #[22, 22] })
    (w0 w : World) (A : Option Addr) (n c : Nat) (xs : List Value) (X : Option Addr) (m cc : Nat) (news : List Ent) (hs : a.eval s = .slice A n c) (hown : OwnX 53 6 w0 w (.slice A n c) n xs)
    (hx : a.eval x = .slice X m cc) (hr : Reads w w.heap.size 6 X m (ents news)) (hlen : n + m ≤ 1000000000)
    (h : ∀ A' c' w', OwnX 53 6 w0 w' (.slice A' (n + m) c') (n + m) (xs ++ ents news) → wpList Try.prog ops Q rest (a.put o.dst (.slice A' (n + m) c')) w') :
    wpList Try.prog ops Q (o :: rest) a w :=
  wpList_pushXm hgd s x 22 53 ho Try.underlying22 info53b rfl (by omega) (by omega) w0.heap.size w A n c xs X m cc (ents news) hs hown.row hown.bel.size hx hr (ents_one _) hlen
    fun A' c' w' h1 h2 _ => h A' c' w' ⟨h1, hown.bel.grown h2 hown.bel.size fun k hk => (hown.row.lt k hk).1⟩
/-- What the slot holds: a slice of the call's own with these entries. -/
def Held (w0 : World) (l : List Ent) (w : World) (v : Value) : Prop := ∃ A c, v = .slice A l.length c ∧ OwnX 53 6 w0 w (.slice A l.length c) l.length (ents l)
theorem Held.on {w0 w w' : World} {l : List Ent} {v : Value} (h : Held w0 l w v) (hb : Below w.heap.size w w') : Held w0 l w' v := by
  obtain ⟨A, c, hv, ho⟩ := h
  exact ⟨A, c, hv, ho.on hb⟩
theorem Held.nil {w0 w : World} (hb : Below w0.heap.size w0 w) : Held w0 [] w (.slice none 0 0) := ⟨none, 0, rfl, World.ownsRow_nil _ _ _ _, hb⟩
theorem Held.bel {w0 w : World} {l : List Ent} {v : Value} (h : Held w0 l w v) : Below w0.heap.size w0 w := by obtain ⟨_, _, _, ho⟩ := h; exact ho.bel
theorem Held.of {w0 w : World} {l l' : List Ent} {A : Option Addr} {n c : Nat} (h : OwnX 53 6 w0 w (.slice A n c) n (ents l ++ ents l')) (hn : n = l.length + l'.length) : Held w0 (l ++ l') w (.slice A n c) := by
  have e : (l ++ l').length = n := by simp [hn]
  refine ⟨A, c, by rw [e], ?_⟩
  rw [e, ents_append]
  exact h
def mg (a b : List Ent) : Nat → List Ent
  | 0 => []
  | p + 1 => mg a b p ++ (ofP a p ++ ofP (wo b a false) p)
theorem mg_three (a b : List Ent) : mg a b 3 = mergeR a b := by
  show (([] ++ _) ++ _) ++ _ = _
  rw [List.nil_append]
  rfl
theorem ofP_le (c : List Ent) (p : Int) : (ofP c p).length ≤ c.length := List.length_filter_le _ _
theorem wo_le (a b : List Ent) (cm : Bool) : (wo a b cm).length ≤ a.length := List.length_filter_le _ _
theorem mg_le (a b : List Ent) (k : Nat) : (mg a b k).length ≤ k * (a.length + b.length) := by
  induction k with
  | zero => exact Nat.le_of_eq (by simp [mg])
  | succ k ih =>
    have h1 := ofP_le a k
    have h2 := ofP_le (wo b a false) k
    have h3 := wo_le b a false
    show (mg a b k ++ _).length ≤ _
    rw [List.length_append, List.length_append, Nat.add_mul, Nat.one_mul]
    omega
def mrgE (a b : List Ent) : Int := if val2 a b ≠ 0 then val2 a b else if 60 < (mergeR a b).length then 4 else 0
def mrgL (a b : List Ent) : List Ent := if mrgE a b = 0 then mergeR a b else []
theorem mrg_bad {a b : List Ent} (h : val2 a b ≠ 0) : mrgE a b = val2 a b ∧ mrgL a b = [] := by
  have h1 : mrgE a b = val2 a b := if_pos h
  exact ⟨h1, by unfold mrgL; rw [h1, if_neg h]⟩
theorem mrg_large {a b : List Ent} (h : val2 a b = 0) (h2 : 60 < (mergeR a b).length) : mrgE a b = 4 ∧ mrgL a b = [] := by
  have h1 : mrgE a b = 4 := by unfold mrgE; rw [if_neg (fun h' => h' h), if_pos h2]
  exact ⟨h1, by unfold mrgL; rw [h1]; rfl⟩
theorem mrg_ok {a b : List Ent} (h : val2 a b = 0) (h2 : ¬ 60 < (mergeR a b).length) : mrgE a b = 0 ∧ mrgL a b = mergeR a b := by
  have h1 : mrgE a b = 0 := by unfold mrgE; rw [if_neg (fun h' => h' h), if_neg h2]
  exact ⟨h1, by unfold mrgL; rw [if_pos h1]⟩
set_option maxRecDepth 100000 in
set_option maxHeartbeats 1000000 in
theorem refMerge_any (A B : Option Addr) (n m c d : Nat) (es fs : List Ent) (w : World) (hl : Reads w w.heap.size 6 A n (ents es)) (hm : Reads w w.heap.size 6 B m (ents fs)) (hn : n ≤ 1000000) (hn2 : m ≤ 1000000) (hnc : n ≤ c) (hmd : m ≤ d) (ht : shortT es) (ht2 : shortT fs) :
    Calls Try.prog 27 #[.slice A n c, .slice B m d] w (RetE (mrgL es fs) (mrgE es fs) w) := by
  have hlen0 := hl.1
  rw [ents_length] at hlen0
  have hlen1 := hm.1
  rw [ents_length] at hlen1
  have l1 : n ≤ es.length := by omega
  have l2 : es.length ≤ n := by omega
  have l3 : m ≤ fs.length := by omega
  have l4 : fs.length ≤ m := by omega
  have HL := Lib.hid hl
  have HM := Lib.hid hm
  have HT := Lib.hid ht
  have HT2 := Lib.hid ht2
  clear hl hm hlen0 hlen1 ht ht2
  go_enter Try.func27, Try.ntmps27
  go_wp2_with fail
  with_reducible refine (both_any A B n m c d es fs _ HL.out HM.out hn hn2 hnc hmd HT.out HT2.out).mono ?_
  rintro _ w2 ⟨rfl, hb2⟩
  have HW2 := Lib.hid hb2
  clear hb2
  by_cases hv : val2 es fs = 0
  case neg =>
    have HV := Lib.hid (mrg_bad hv)
    have g := neB hv
    clear hv
    go_wp2_with fail
    go_ret2
    rw [HV.out.2]
    exact RetE.nil HV.out.1.symm HW2.out
  have HV := Lib.hid hv
  have g := neBf hv
  clear hv
  go_wp2_with fail
  go_loopw [7, 8] (fun v i wr => ∃ p : Nat, p ≤ 3 ∧ i = .int .i64 p ∧ Held w (mg es fs p) wr v) (fun _ i _ => 3 - (intOf i).toNat)
  case atStart => exact ⟨0, by omega, rfl, Held.nil HW2.out⟩
  case round =>
    obtain ⟨p, hp, rfl, A1, c1, rfl, hown⟩ := hrel
    have HOWN := Lib.hid hown
    clear hown
    by_cases hlt : p < 3
    · have hle := mg_le es fs p
      have hle2 : p * (es.length + fs.length) ≤ 3 * (es.length + fs.length) := Nat.mul_le_mul_right _ (by omega)
      have o1 := ofP_le es p
      have o2 := ofP_le (wo fs es false) p
      have o3 := wo_le fs es false
      have HMS := Lib.hid (show mg es fs (p + 1) = mg es fs p ++ (ofP es p ++ ofP (wo fs es false) p) from rfl)
      go_wp2_with fail
      with_reducible refine (of_any A n c es p _ (HL.out.on HOWN.out.bel) hn).mono ?_
      rintro _ w3 ⟨B3, d3, rfl, hr3, hb3⟩
      have HO3 := Lib.hid (HOWN.out.on hb3)
      have HR3 := Lib.hid (Reads.of_own hr3)
      clear hr3 hb3
      have hln : (mg es fs p).length + (ofP es p).length ≤ 1000000000 := by omega
      go_wp2_with (at_builtin; refine wpList_pushO rfl _ _ rfl w _ A1 _ c1 _ B3 _ d3 (ofP es p) rfl HO3.out rfl HR3.out hln ?_; intro A4 c4 w4 ho4; have HO4 := Lib.hid ho4; clear ho4)
      with_reducible refine (without_any B A m n d c fs es false _ (HM.out.on HO4.out.bel) (HL.out.on HO4.out.bel) hn2 hn).mono ?_
      rintro _ w5 ⟨B5, d5, rfl, hr5, hb5⟩
      have HO5 := Lib.hid (HO4.out.on hb5)
      have HR5 := Lib.hid (Reads.of_own hr5)
      clear hr5 hb5
      go_wp2_with fail
      with_reducible refine (of_any B5 _ d5 (wo fs es false) p _ HR5.out (by omega)).mono ?_
      rintro _ w6 ⟨B6, d6, rfl, hr6, hb6⟩
      have HO6 := Lib.hid (HO5.out.on hb6)
      have HR6 := Lib.hid (Reads.of_own hr6)
      clear hr6 hb6
      have hln2 : (mg es fs p).length + (ofP es p).length + (ofP (wo fs es false) p).length ≤ 1000000000 := by omega
      go_wp2_with (at_builtin; refine wpList_pushO rfl _ _ rfl w _ A4 _ c4 _ B6 _ d6 (ofP (wo fs es false) p) rfl HO6.out rfl HR6.out hln2 ?_; intro A7 c7 w7 ho7; have HO7 := Lib.hid ho7; clear ho7)
      go_roundw
      case rel =>
        refine ⟨p + 1, by omega, by go_num, ?_⟩
        have h7 := HO7.out
        rw [← ents_append] at h7
        rw [HMS.out, ← List.append_assoc]
        exact Held.of h7 (by simp)
      case measure => simp [intOf]; omega
    · have HE : Hid (mg es fs p = mergeR es fs) := Lib.hid (by rw [show p = 3 by omega, mg_three])
      have ho := HOWN.out
      rw [HE.out] at ho
      rw [HE.out]
      have HO := Lib.hid ho
      clear ho HOWN
      by_cases h60 : 60 < (mergeR es fs).length
      · have HF := Lib.hid (mrg_large HV.out h60)
        go_wp2_with fail
        go_ret2
        rw [HF.out.2]
        exact RetE.nil HF.out.1.symm HO.out.bel
      · have HF := Lib.hid (mrg_ok HV.out h60)
        go_wp2_with fail
        go_ret2
        rw [HF.out.1, HF.out.2]
        exact ⟨A1, c1, rfl, HO.out.row, HO.out.bel⟩
end Go.Proofs.Ytlmdmbjdhlgkoaa
