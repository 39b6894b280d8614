/- Fields that the call itself owns; slices.Clone; clone and result. -/
import Derived.Test.YtahmdnboeenfkaaSt
import Derived.Test.YtahmdnboeenfkaaW12
import Derived.Test.YtahmdnboeenfkaaPl7
import Derived.Test.YtahmdnboeenfkaaBx
namespace Go.Proofs.Ytahmdnboeenfkaa
open Go.RowKit Go.Sort

set_option maxRecDepth 4000 in
/-- Append of what a slice reads, onto an empty row that was made just now. -/
theorem wpList_copyR {ops : Array Oper} {rest : List Oper} {o : Oper} {a : Act} {Q : Exit → Act → World → Prop} (hgd : o.guard = none) (s x : Operand) (t e : TypeId)
    (ho : o.op = .call { callee := .builtin .append, args := #[s, x], argTypes := #[t, t] }) {z : Value} {sz bytes : Nat} (ht : Try.prog.underlying t = some (.slice e))
    (hinfo : (Try.prog.info? e).map (fun i => (i.zero, i.size, i.bytes)) = some (some z, sz, bytes)) (hzs : z.cells.size = sz) (hsz : 0 < sz) (hby : bytes ≤ 1000)
    (w0 : World) (hs : a.eval s = .slice (some ⟨w0.heap.size, 0, none⟩) 0 0)
    {ad : Addr} {m c : Nat} {news : List Value} (hx : a.eval x = .slice (some ad) m c) (hr : Reads w0 w0.heap.size sz (some ad) m news) (h1 : ∀ u ∈ news, u.oneCell' = true) (hlen : m ≤ 1000000000)
    (h : ∀ A' c' w', w'.ownsRow w0.heap.size e sz (.slice A' m c') m news → Below w0.heap.size w0 w' → wpList Try.prog ops Q rest (a.put o.dst (.slice A' m c')) w') :
    wpList Try.prog ops Q (o :: rest) a (w0.alloc (.cells #[] e)) := by
  obtain ⟨i0, hi, hz0, hz1, hz2⟩ := info_parts hinfo
  have hnews : ∀ j u, news[j]? = some u → (w0.alloc (.cells #[] e)).cell? (ad.add j) = some u := fun j u hj => by
    rcases Nat.eq_zero_or_pos m with h0 | h0
    · have := hr.len; rw [h0, Nat.zero_mul] at this
      rw [List.eq_nil_of_length_eq_zero this] at hj; cases hj
    · obtain ⟨p, hp, _, hc⟩ := (hr.on (belowA w0 (.cells #[] e))).look h0
      injection hp with hp; subst hp
      exact hc j u hj
  refine wpList_append_own (w0.alloc (.cells #[] e)) hgd s x t ho w0.heap.size e i0 _ sz bytes ht hi hz0 hz1 hz2 hzs hsz _ 0 [] hs (World.ownsRow_made w0 #[] 0 (Nat.le_refl _) (Nat.zero_le _) (by simp)) ad m c news hx hr.len hnews h1 ?_ ?_ (by simp) ?_
  · unfold maxLen; omega
  · have := Nat.mul_le_mul (show 0 + m ≤ 1000000000 by omega) hby
    omega
  · intro v' w' h1 h2 _
    have hb : Below w0.heap.size w0 w' := (belowA w0 (.cells #[] e)).grown h2 (by simp) (fun k hk => by simp [Value.ownBlock] at hk; omega)
    rw [Nat.zero_add, List.nil_append] at h1
    obtain ⟨A2, c2, rfl⟩ := row_form h1
    exact h A2 c2 w' h1 hb

def RetRow (e : TypeId) (sz n : Nat) (xs : List Value) (w : World) (r : Ending) (w' : World) : Prop :=
  ∃ B d, r = .returned (.slice B n d) ∧ w'.ownsRow w.heap.size e sz (.slice B n d) n xs ∧ Below w.heap.size w w'
set_option maxRecDepth 4000 in
theorem cloneE_any (A : Option Addr) (n c : Nat) (es : List Edg) (w : World) (hl : Reads w w.heap.size 3 A n (edgs es)) (hn : n ≤ 1000000) :
    Calls Try.prog 85 #[.slice A n c] w (RetRow 33 3 n (edgs es) w) := by
  have HL := Lib.hid hl
  cases A with
  | none =>
    have h0 : n = 0 := by
      rcases Nat.eq_zero_or_pos n with h | h
      · exact h
      · obtain ⟨p, hp, _⟩ := hl.look h; cases hp
    subst h0
    clear hl
    have N0 := fun w => Lib.run_eql_slice_nil (P := Try.prog) w 23 33 none 0 c 0 0 Try.underlying23
    go_enter Try.func85, Try.ntmps85
    go_wp2_with fail
    go_ret
    have : edgs es = [] := List.eq_nil_of_length_eq_zero (by have := HL.out.len; simpa using this)
    exact ⟨none, 0, rfl, by rw [this]; exact World.ownsRow_nil _ _ _ _, Below.refl _ _⟩
  | some ad =>
    clear hl
    have hlen : n ≤ 1000000000 := by omega
    have N0 := fun w => Lib.run_eql_slice_nil (P := Try.prog) w 23 33 (some ad) n c 0 0 Try.underlying23
    go_enter Try.func85, Try.ntmps85
    go_wp2_with (at_builtin; refine wpList_copyR rfl _ _ 23 33 rfl Try.underlying23 info33 rfl (by omega) (by omega) w rfl rfl HL.out (edgs_one _) hlen ?_; intro B d w1 hr1 hb1; have HR1 := Lib.hid hr1; have HB1 := Lib.hid hb1; clear hr1 hb1)
    go_ret
    exact ⟨B, d, rfl, HR1.out, HB1.out⟩
set_option maxRecDepth 4000 in
theorem cloneI_any (A : Option Addr) (n c : Nat) (zs : List Int) (w : World) (hl : Reads w w.heap.size 1 A n (ints zs)) (hn : n ≤ 1000000) :
    Calls Try.prog 95 #[.slice A n c] w (RetRow 3 1 n (ints zs) w) := by
  have HL := Lib.hid hl
  cases A with
  | none =>
    have h0 : n = 0 := by
      rcases Nat.eq_zero_or_pos n with h | h
      · exact h
      · obtain ⟨p, hp, _⟩ := hl.look h; cases hp
    subst h0
    clear hl
    have N0 := fun w => Lib.run_eql_slice_nil (P := Try.prog) w 22 3 none 0 c 0 0 Try.underlying22
    go_enter Try.func95, Try.ntmps95
    go_wp2_with fail
    go_ret
    have : ints zs = [] := List.eq_nil_of_length_eq_zero (by have := HL.out.len; simpa using this)
    exact ⟨none, 0, rfl, by rw [this]; exact World.ownsRow_nil _ _ _ _, Below.refl _ _⟩
  | some ad =>
    clear hl
    have hlen : n ≤ 1000000000 := by omega
    have N0 := fun w => Lib.run_eql_slice_nil (P := Try.prog) w 22 3 (some ad) n c 0 0 Try.underlying22
    go_enter Try.func95, Try.ntmps95
    go_wp2_with (at_builtin; refine wpList_copyR rfl _ _ 22 3 rfl Try.underlying22 info3 rfl (by omega) (by omega) w rfl rfl HL.out (ints_one _) hlen ?_; intro B d w1 hr1 hb1; have HR1 := Lib.hid hr1; have HB1 := Lib.hid hb1; clear hr1 hb1)
    go_ret
    exact ⟨B, d, rfl, HR1.out, HB1.out⟩

/-- The call's own field: both lists are rows of its own, from block bl on, in two blocks. -/
structure FOwn (bl : Nat) (w : World) (v : FV) : Prop where
  ds : w.ownsRow bl 3 1 (.slice v.A v.n v.c) v.n (ints v.f.ds)
  ps : w.ownsRow bl 33 3 (.slice v.B v.m v.d) v.m (edgs v.f.ps)
  ne : ∀ p q, v.A = some p → v.B = some q → p.block ≠ q.block
section
variable {bl : Nat} {w w' : World} {v : FV}
theorem row_cap {e : TypeId} {sz n c : Nat} {A : Option Addr} {xs : List Value} (h : w.ownsRow bl e sz (.slice A n c) n xs) : n ≤ c ∧ c ≤ maxLen := by
  rcases h.2 with ⟨hv, h0⟩ | ⟨g, cap, cur, hv, _, _, h1, h2, _⟩
  · injection hv with _ _ e3; subst h0 e3; exact ⟨Nat.le_refl _, Nat.zero_le _⟩
  · injection hv with _ _ e3; subst e3; exact ⟨h1, h2⟩
theorem row_on {e : TypeId} {sz n : Nat} {u : Value} {xs : List Value} (h : w.ownsRow bl e sz u n xs) (hb : Below w.heap.size w w') : w'.ownsRow bl e sz u n xs := by
  refine h.kept (row := none) ⟨hb.os, hb.tape, hb.output, hb.size, fun k hk _ => hb.block k hk⟩ ?_
  cases hv : u.ownBlock with
  | none => exact .inl rfl
  | some k => exact .inr (by simp)
theorem FOwn.In (h : FOwn bl w v) : v.In w :=
  ⟨Reads.of_own h.ds, Reads.of_own h.ps, by have := row_cap h.ds; unfold maxLen at this; omega, by have := row_cap h.ps; unfold maxLen at this; omega⟩
theorem FOwn.caps (h : FOwn bl w v) : v.n ≤ v.c ∧ v.m ≤ v.d := ⟨(row_cap h.ds).1, (row_cap h.ps).1⟩
theorem FOwn.on (h : FOwn bl w v) (hb : Below w.heap.size w w') : FOwn bl w' v := ⟨row_on h.ds hb, row_on h.ps hb, h.ne⟩
theorem FOwn.zero (bl : Nat) (w : World) : FOwn bl w ⟨zeroF, none, none, 0, 0, 0, 0⟩ := ⟨World.ownsRow_nil _ _ _ _, World.ownsRow_nil _ _ _ _, fun p q h => by cases h⟩
/-- Behind the sort of the partings. -/
theorem FOwn.sorted (h : FOwn bl w v) (h1 : w'.ownsRow bl 33 3 (.slice v.B v.m v.d) v.m (edgs (sortE v.f.ps))) (h2 : w.grownBy w' (Value.slice v.B v.m v.d).ownBlock) :
    FOwn bl w' ⟨{ v.f with ps := sortE v.f.ps }, v.A, v.B, v.n, v.c, v.m, v.d⟩ := by
  refine ⟨h.ds.kept h2 ?_, h1, h.ne⟩
  cases hA : v.A with
  | none => exact .inl rfl
  | some p =>
    refine .inr ?_
    cases hB : v.B with
    | none => simp [Value.ownBlock]
    | some q => simp [Value.ownBlock]; exact h.ne p q hA hB
theorem Below.sorted {w0 : World} (h : Below w0.heap.size w0 w) (hd : w.ownsRow w0.heap.size 33 3 (.slice v.B v.m v.d) v.m (edgs v.f.ps)) (h2 : w.grownBy w' (Value.slice v.B v.m v.d).ownBlock) : Below w0.heap.size w0 w' :=
  h.grown h2 h.size fun k hk => (hd.lt k hk).1
end
end Go.Proofs.Ytahmdnboeenfkaa
