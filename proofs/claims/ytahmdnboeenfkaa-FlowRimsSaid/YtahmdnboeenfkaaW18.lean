/- Walks: looking for a place in a list of places. -/
import Derived.Test.YtahmdnboeenfkaaW17
import Derived.Test.YtahmdnboeenfkaaPl4
namespace Go.Proofs.Ytahmdnboeenfkaa
open Go.RowKit Go.Sort

def eqP (a b : Plc) : Bool := decide (a = b)
theorem eqP_iff {a b : Plc} : eqP a b = true ↔ a = b := by simp [eqP]
theorem eqP_not {a b : Plc} : eqP a b = false ↔ a ≠ b := by simp [eqP]
theorem eqg35 (o : BinOp) (x y : Operand) (xs ys : Array Value) (w : World) : (eqGuard o 35 x y (.agg xs) (.agg ys)).run Try.prog w = .ok () w :=
  run_eqGuard_agg w o 35 x y xs ys (by kernel_rfl)
theorem eqi35 (a b : Plc) (d : Nat) (w : World) : (Op.equalIn (d + 2) 35 (pval a) (pval b)).run Try.prog w = .ok (eqP a b) w := by
  rw [run_equalIn_struct w (d + 1) 35 _ _ (by kernel_rfl) (by kernel_rfl)]
  have hf : (Try.prog.fieldsOf 35).toList = [⟨"X", 3, 0, false, "", "", 0⟩, ⟨"Y", 3, 1, false, "", "", 8⟩] := by kernel_rfl
  have h3 : Try.prog.underlying 3 = some (.int .i64) := by kernel_rfl
  rw [hf]
  obtain ⟨a1, a2⟩ := a
  obtain ⟨b1, b2⟩ := b
  simp [go_sem, h3, eqP]
  by_cases h1 : a1 = b1 <;> by_cases h2 : a2 = b2 <;> simp [h1, h2]
theorem eql35 (a b : Plc) (w : World) : (binOp .eql 35 (pval a) (pval b)).run Try.prog w = .ok (.bool (eqP a b)) w := by
  rw [run_eql_struct, eqi35 a b 9998 w]; rfl
theorem neq35 (a b : Plc) (w : World) : (binOp .neq 35 (pval a) (pval b)).run Try.prog w = .ok (.bool (!eqP a b)) w := by
  rw [run_neq_struct, eqi35 a b 9998 w]; rfl

theorem indexP_any (A : Option Addr) (n c : Nat) (l : List Plc) (q : Plc) (w : World) (hl : Reads w w.heap.size 2 A n (plcs l)) (hn : n ≤ 9223372036854775807) :
    Calls Try.prog 94 #[.slice A n c, pval q] w fun r w' => ∃ z : Int, r = .returned (.int .i64 z) ∧ decide (0 ≤ z) = decide (q ∈ l) ∧ -1 ≤ z ∧ z ≤ 9223372036854775807 ∧ Below w.heap.size w w' := by
  have hlen := hl.1
  rw [plcs_length] at hlen
  have l1 : n ≤ l.length := by omega
  have l2 : l.length ≤ n := by omega
  clear hlen
  have HL := Lib.hid hl
  clear hl
  go_enter Try.func94, Try.ntmps94
  dsimp only [pval]
  go_wp2_with fail
  refine wp_gen (fun w1 => Box w1 w.heap.size #[.int .i64 q.1, .int .i64 q.2] ∧ Below w.heap.size w w1) ⟨Box.new _ _ _, belowA _ _⟩ ?_
  rintro w1 ⟨b0, hw10⟩
  have hw1 := Lib.hid hw10
  have HL1 := Lib.hid (HL.out.on hw10)
  clear hw10
  go_loopw [8] (fun i wr => ∃ k : Nat, k ≤ n ∧ i = .int .i64 k ∧ (∀ j, j < k → l[j]? ≠ some q) ∧ Below w1.heap.size w1 wr) (fun i _ => n - (intOf i).toNat)
  case atStart => exact ⟨0, by omega, rfl, fun j hj => absurd hj (by omega), Below.refl _ _⟩
  case round =>
    obtain ⟨k, hk, rfl, hno0, hb0⟩ := hrel
    have hno := Lib.hid hno0
    have hbel := Lib.hid hb0
    have c0 := (b0.below hb0).at
    have HLr := Lib.hid (HL1.out.on hb0)
    clear hno0 hb0
    by_cases hlt : k < n
    · obtain ⟨ad, x, e1, hbk, hx0, d0, d1⟩ := plat HLr.out (k := k) (by omega)
      have hx := Lib.hid hx0
      have X := fun w => ix45 (c := c) e1 hlt w
      clear hx0 e1
      have q1 := eqg35 .eql
      have q2 := eql35 q x
      go_wp2_with fail
      go_quiet (fail)
      cases hq : eqP q x
      · have HQ := Lib.hid (eqP_not.1 hq)
        go_wp2_with fail
        go_roundw
        case rel =>
          refine ⟨k + 1, by omega, by go_num, fun j hj => ?_, below_drewN' hbel.out _⟩
          rcases Nat.lt_or_ge j k with h | h
          · exact hno.out j h
          · obtain rfl : j = k := by omega
            rw [hx.out]; intro h; exact HQ.out (Option.some.inj h).symm
        case measure => simp [intOf]; omega
      · have HQ := Lib.hid (eqP_iff.1 hq)
        go_wp2_with fail
        go_ret
        refine ⟨k, rfl, ?_, by omega, by omega, below_trans' hw1.out (below_drewN' hbel.out _)⟩
        rw [decide_eq_decide]
        refine ⟨fun _ => ?_, fun _ => by omega⟩
        rw [HQ.out]; exact List.mem_of_getElem? hx.out
    · go_wp2_with fail
      go_ret
      refine ⟨-1, rfl, ?_, by omega, by omega, below_trans' hw1.out hbel.out⟩
      rw [decide_eq_decide]
      refine ⟨fun h => by omega, fun h => ?_⟩
      obtain ⟨j, hj, e⟩ := List.getElem_of_mem h
      exact absurd (by rw [List.getElem?_eq_getElem hj, e]) (hno.out j (by omega))
theorem contains_any (A : Option Addr) (n c : Nat) (l : List Plc) (q : Plc) (w : World) (hl : Reads w w.heap.size 2 A n (plcs l)) (hn : n ≤ 9223372036854775807) :
    Calls Try.prog 76 #[.slice A n c, pval q] w fun r w' => r = .returned (.bool (decide (q ∈ l))) ∧ Below w.heap.size w w' := by
  have HL := Lib.hid hl
  clear hl
  go_enter Try.func76, Try.ntmps76
  dsimp only [pval]
  go_wp2_with fail
  refine (indexP_any A n c l q _ (HL.out.on (belowA _ _)) hn).mono ?_
  rintro r w1 ⟨z, rfl, hz, z0, z1, hb1⟩
  have HZ := Lib.hid hz
  have hw1 := Lib.hid (below1 _ hb1)
  clear hz hb1
  go_wp2_with fail
  go_ret
  exact ⟨ret_bool HZ.out, hw1.out⟩
theorem named_any (A : Option Addr) (n c : Nat) (l : List Plc) (x y : Int) (w : World) (hl : Reads w w.heap.size 2 A n (plcs l)) (hn : n ≤ 9223372036854775807) :
    Calls Try.prog 77 #[.slice A n c, .int .i64 x, .int .i64 y] w fun r w' => r = .returned (.bool (decide ((x, y) ∈ l))) ∧ Below w.heap.size w w' := by
  have hlen := hl.1
  rw [plcs_length] at hlen
  have l1 : n ≤ l.length := by omega
  have l2 : l.length ≤ n := by omega
  clear hlen
  have HL := Lib.hid hl
  clear hl
  go_enter Try.func77, Try.ntmps77
  go_wp2_with fail
  go_loopw [7] (fun i wr => ∃ k : Nat, k ≤ n ∧ i = .int .i64 k ∧ (∀ j, j < k → l[j]? ≠ some (x, y)) ∧ Below w.heap.size w wr) (fun i _ => n - (intOf i).toNat)
  case atStart => exact ⟨0, by omega, rfl, fun j hj => absurd hj (by omega), Below.refl _ _⟩
  case round =>
    obtain ⟨k, hk, rfl, hno0, hb0⟩ := hrel
    have hno := Lib.hid hno0
    have hbel := Lib.hid hb0
    have HLr := Lib.hid (HL.out.on hb0)
    clear hno0 hb0
    by_cases hlt : k < n
    · obtain ⟨ad, q, e1, hbk, hx0, d0, d1⟩ := plat HLr.out (k := k) (by omega)
      have hx := Lib.hid hx0
      have X := fun w => ix45 (c := c) e1 hlt w
      clear hx0 e1
      have hne : (q.1 == x) = false ∨ (q.2 == y) = false → l[k]? ≠ some (x, y) := fun h e => by
        have := hx.out.symm.trans e
        obtain rfl := Option.some.inj this
        simp at h
      have HNE := Lib.hid hne
      have HYE := Lib.hid (show (q.1 == x) = true → (q.2 == y) = true → l[k]? = some (x, y) from fun h1 h2 => by
        rw [hx.out, ← eq_of_beq h1, ← eq_of_beq h2])
      clear hne
      cases h1 : q.1 == x
      · have hno2 := Lib.hid (HNE.out (.inl h1))
        go_wp2_with fail
        go_roundw
        case rel =>
          refine ⟨k + 1, by omega, by go_num, fun j hj => ?_, hbel.out⟩
          rcases Nat.lt_or_ge j k with h | h
          · exact hno.out j h
          · obtain rfl : j = k := by omega
            exact hno2.out
        case measure => simp [intOf]; omega
      · cases h2 : q.2 == y
        · have hno2 := Lib.hid (HNE.out (.inr h2))
          go_wp2_with fail
          go_roundw
          case rel =>
            refine ⟨k + 1, by omega, by go_num, fun j hj => ?_, hbel.out⟩
            rcases Nat.lt_or_ge j k with h | h
            · exact hno.out j h
            · obtain rfl : j = k := by omega
              exact hno2.out
          case measure => simp [intOf]; omega
        · have hyes := Lib.hid (HYE.out h1 h2)
          go_wp2_with fail
          go_ret
          exact ⟨ret_bool (by have := List.mem_of_getElem? hyes.out; simpa using this), hbel.out⟩
    · go_wp2_with fail
      go_ret
      refine ⟨ret_bool ?_, hbel.out⟩
      symm
      rw [decide_eq_false_iff_not]
      intro h
      obtain ⟨j, hj, e⟩ := List.getElem_of_mem h
      exact absurd (by rw [List.getElem?_eq_getElem hj, e]) (hno.out j (by omega))
end Go.Proofs.Ytahmdnboeenfkaa
