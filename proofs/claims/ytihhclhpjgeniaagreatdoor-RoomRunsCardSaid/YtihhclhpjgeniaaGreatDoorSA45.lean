/- Merged texts: Yf Yg Yh -/
import Derived.Test.YtihhclhpjgeniaaGreatDoorSA4
import Derived.Test.YtihhclhpjgeniaaGreatDoorSA44
namespace Go.Proofs.YtihhclhpjgeniaaGreatDoor
open Go.RowKit Go.Sort Go.MuLone
theorem cloneI_any (A : Option Addr) (n c : Nat) (xs : List Int) (w : World) (hl : Reads w w.heap.size 1 A n (ints xs)) (hn : n ≤ 1000000) :
    Calls Tryz.prog 121 #[.slice A n c] w (RetRow 3 1 n (ints xs) w) := by
  have HL := Lib.hid hl
  cases A with
  | none =>
    have h0 : n = 0 := by
      rcases Nat.eq_zero_or_pos n with h | h
      · exact h
      · obtain ⟨p, hp, _⟩ := hl.look h; cases hp
    subst h0
    clear hl
    have N0 := fun w => Lib.run_eql_slice_nil (P := Tryz.prog) w 54 3 none 0 c 0 0 Tryz.underlying54
    go_enter Tryz.func121, Tryz.ntmps121
    go_wp2_with fail
    go_ret
    have : ints xs = [] := List.eq_nil_of_length_eq_zero (by have := HL.out.1; omega)
    exact ⟨none, 0, rfl, by rw [this]; exact World.ownsRow_nil _ _ _ _, Below.refl _ _⟩
  | some ad =>
    clear hl
    have hlen : n ≤ 1000000000 := by omega
    have N0 := fun w => Lib.run_eql_slice_nil (P := Tryz.prog) w 54 3 (some ad) n c 0 0 Tryz.underlying54
    go_enter Tryz.func121, Tryz.ntmps121
    go_wp2_with (at_builtin; refine wpList_copyR rfl _ _ 54 3 rfl Tryz.underlying54 info3h rfl (by omega) (by omega) w rfl rfl HL.out (ints_one _) hlen ?_; intro B d w1 hr1 hb1; have HR1 := Lib.hid hr1; have HB1 := Lib.hid hb1; clear hr1 hb1)
    go_ret
    exact ⟨B, d, rfl, HR1.out, HB1.out⟩
structure XS (N : Nat) (u : BV) (W : World) : Prop where
  b : At W N u.arr 56
  i : u.In W
  o : At W (N + 1) noArr 56
theorem XS.below {N : Nat} {u : BV} {W W' : World} (h : XS N u W) (hb : Below W.heap.size W W') : XS N u W' := ⟨h.b.below hb, h.i.below hb, h.o.below hb⟩
theorem BV.ln {u : BV} {w : World} (h : u.In w) : u.n ≤ 1000000 ∧ u.m ≤ 1000000 := by
  have h1 := h.nr
  have h2 := h.mw
  exact ⟨by rw [h1]; exact Nat.le_trans h.ok.r (by decide), by rw [h2]; exact Nat.le_trans h.ok.w (by decide)⟩
set_option maxRecDepth 100000 in
set_option maxHeartbeats 1000000 in
theorem copyB_any (u : BV) (w : World) (hu : u.In w) : Calls Tryz.prog 69 #[.agg u.arr] w (RetH u.h w) := by
  have HL := Lib.hid (BV.ln hu)
  have HOK := Lib.hid hu.ok
  have HX : Hid (XS w.heap.size u _) := Lib.hid ⟨(At.new w u.arr 56).al (.cells noArr 56), hu.below (bel2 w (.cells u.arr 56) (.cells noArr 56)), at_n1 w (.cells u.arr 56) noArr 56⟩
  have HB := Lib.hid (bel2 w (.cells u.arr 56) (.cells noArr 56))
  clear hu
  go_enter Tryz.func69, Tryz.ntmps69
  go_wp2_with fail
  generalize ((w.alloc (.cells _ 56)).alloc (.cells _ 56)) = w1 at HX HB ⊢
  refine wp_region_hk [0, 1, 3, 4] [6] [2, 5, 7] (fun W => XS w.heap.size u W) mixed (by kernel_rfl) (fun W W' h hb => h.below hb) (HX.out.below (below_drew _)) ?_
  iterate 4
    refine canonG_read (v := ?_) rfl (by rfl) ?_ ?_
    rotate_left
    · intro W hS
      have cb := hS.b.cell
      go_simp <;> with_reducible rfl
    simp only [List.getElem_toArray, List.getElem_cons_zero, List.getElem_cons_succ, Act.put, List.setIfInBounds_toArray, List.set_cons_succ, List.set_cons_zero]
  refine canonG_nil ?_
  refine tailK_one (t := 2) (ts' := [5, 7]) (ps' := [6]) (ns := []) (by kernel_rfl) rfl (by kernel_rfl) (by kernel_rfl) rfl (by kernel_rfl) ?_
  intro w2 hb
  have HX2 := Lib.hid (HX.out.below (undrew hb))
  have HB2 := Lib.hid (below_trans' HB.out (undrew hb))
  clear hb HX HB
  go_wp2_with fail
  with_reducible refine (cloneI_any u.A u.n u.c u.h.R w2 HX2.out.i.r HL.out.1).mono ?_
  rintro _ w3 ⟨A, c, rfl, ho, hb⟩
  have HX3 := Lib.hid (HX2.out.below hb)
  have HB3 := Lib.hid (below_trans' HB2.out hb)
  have HA := Lib.hid ho
  have HZ : Hid (w.heap.size + 2 ≤ w2.heap.size) := Lib.hid (by have := HX2.out.o.lt; omega)
  clear hb ho HX2 HB2
  go_wp2_with fail
  refine ⟨HX3.out, canonG_nil ?_⟩
  refine tailK_one (t := 5) (ts' := [7]) (ps' := []) (ns := [6]) (by kernel_rfl) rfl (by kernel_rfl) (by kernel_rfl) rfl (by kernel_rfl) ?_
  intro w4 hb
  have HX4 := Lib.hid (HX3.out.below hb)
  have HB4 := Lib.hid (below_trans' HB3.out hb)
  have HA4 := Lib.hid (row_on HA.out hb)
  have HZ4 : Hid (w.heap.size + 2 ≤ w4.heap.size) := Lib.hid (by have := HX4.out.o.lt; omega)
  clear hb HX3 HB3 HA
  go_wp2_with fail
  with_reducible refine (cloneI_any u.B u.m u.d u.h.W w4 HX4.out.i.s HL.out.2).mono ?_
  rintro _ w5 ⟨B, d, rfl, ho, hb⟩
  have HX5 := Lib.hid (HX4.out.below hb)
  have HB5 := Lib.hid (below_trans' HB4.out hb)
  have HA5 := Lib.hid (row_on HA4.out hb)
  have HC5 := Lib.hid ho
  clear hb ho HX4 HB4 HA4
  go_wp2_with fail
  refine ⟨HX5.out, ?_⟩
  iterate 1
    refine canonG_read (v := ?_) rfl (by rfl) ?_ ?_
    rotate_left
    · intro W hS
      go_simp <;> with_reducible rfl
    simp only [List.getElem_toArray, List.getElem_cons_zero, List.getElem_cons_succ, Act.put, List.setIfInBounds_toArray, List.set_cons_succ, List.set_cons_zero]
  refine canonG_nil ?_
  refine tailK_last (t := 7) (by kernel_rfl) rfl ?_
  intro w6 hb
  have HX6 := Lib.hid (HX5.out.below hb)
  have HB6 := Lib.hid (below_trans' HB5.out hb)
  have HA6 := Lib.hid (row_on HA5.out hb)
  have HC6 := Lib.hid (row_on HC5.out hb)
  clear hb HX5 HB5 HA5 HC5
  have fr := HX6.out.o.fz
  have cr := HX6.out.o.cell
  go_wp2_with fail
  refine NoPanic.normal ?_
  go_wp2_with fail
  refine bodyPost_ret (retBE1 2 (w.heap.size + 1) #[.slice A u.n c, .slice B u.m d] rfl rfl ((HX6.out.o.set 0 _).set 1 _) rfl) rfl ?_
  have k := (((Kp.refl (fun j => j = w.heap.size + 1) w6).set (p := ⟨w.heap.size + 1, 0, none⟩) (fun _ => rfl) (.slice A u.n c)).set (p := ⟨w.heap.size + 1, 1, none⟩) (fun _ => rfl) (.slice B u.m d))
  have hA : ∀ b, (Value.slice A u.n c).ownBlock = some b → w.heap.size + 2 ≤ b := fun b hb => Nat.le_trans HZ.out (HA6.out.lt b hb).1
  have hB : ∀ b, (Value.slice B u.m d).ownBlock = some b → w.heap.size + 2 ≤ b := fun b hb => Nat.le_trans HZ4.out (HC6.out.lt b hb).1
  refine ⟨⟨u.h, A, B, u.n, c, u.m, d⟩, rfl, rfl, ⟨(Reads.of_own HA6.out).kb k ?_, (Reads.of_own HC6.out).kb k ?_, (row_cap HA6.out).1, (row_cap HC6.out).1, HOK.out⟩, ?_, below_put (below_put HB6.out (p := ⟨w.heap.size + 1, 0, none⟩) (show w.heap.size ≤ w.heap.size + 1 by omega) _) (p := ⟨w.heap.size + 1, 1, none⟩) (show w.heap.size ≤ w.heap.size + 1 by omega) _⟩
  · rintro b ⟨_, a, ha, hb⟩ e
    have := hA b (by rw [ha, ← hb]; rfl); omega
  · rintro b ⟨_, a, ha, hb⟩ e
    have := hB b (by rw [ha, ← hb]; rfl); omega
  · rintro b (⟨_, a, ha, hb⟩ | ⟨_, a, ha, hb⟩)
    · have := hA b (by rw [show A = some a from ha, ← hb]; rfl); omega
    · have := hB b (by rw [show B = some a from ha, ← hb]; rfl); omega
end Go.Proofs.YtihhclhpjgeniaaGreatDoor
namespace Go.Proofs.YtihhclhpjgeniaaGreatDoor
open Go.RowKit Go.Sort Go.MuLone
theorem RV.In.putq {v : RV} {s : Int} {p q : Nat} {W : World} (h : v.In s p W) (hq : ∀ k, v.F p k ∨ v.C k → k ≠ q) (i : Nat) (u : Value) : v.In s p (W.setCell ⟨q, i, none⟩ u) :=
  h.kp ((Kp.refl (fun j => j = q) W).set (p := ⟨q, i, none⟩) (fun _ => rfl) u) fun b hb e => hq b hb e
theorem Rs.put {v v' : RV} {p q : Nat} {w W : World} (h : Rs p v w v' W) (hq : w.heap.size ≤ q) (i : Nat) (u : Value) : Rs p v w v' (W.setCell ⟨q, i, none⟩ u) :=
  ⟨h.kp.set (p := ⟨q, i, none⟩) (fun hl => by have : q < w.heap.size := hl; omega) u, h.f, h.c⟩
theorem retB2 {fn : Func} {tmps : Array Value} {w : World} (p u : _root_.Go.Tmp) (g : Nat) (cs : Array Value) (h : fn.results = #[.cell p 56, .tmp u]) (hp : tmps.getD p undef = .pointer (some ⟨g, 0, none⟩)) (hg : At w g cs 56) (hc : cs.size = 2) :
    (results fn tmps).run Tryz.prog w = .ok (.tuple #[.agg cs, tmps.getD u undef]) w := by
  rw [results_cell_tmp h, hp]
  simp [asAddr, run_loadVar_row w g 56 56 cs (0, 0) _ hg Tryz.underlying56 rfl (by rw [hc]; kernel_rfl)]
def RetBd (v : RV) (p : Nat) (s : List UInt8) (w : World) (r : Ending) (w' : World) : Prop :=
  ∃ (u : BV) (e : Int), r = .returned (.tuple #[.agg u.arr, .int .i64 e]) ∧ u.In w' ∧ (match v.rm.bun s with | none => e = 5 ∧ u.h = noH | some k => e = 0 ∧ u.h = v.rm.hr k) ∧ v.In 0 p w' ∧ Rs p v w v w'
theorem bd_door {v : RV} {p q : Nat} {w W : World} {tmps : Array Value} {s : List UInt8} {u : BV} {e : Int} {cs : Array Value} (_hcs : cs.size = 2) (hi : v.In 1 p W) (hr : Rs p v w v W) (hq : w.heap.size ≤ q) (hqn : ∀ k, v.F p k ∨ v.C k → k ≠ q) (hk : At W q cs 56) (hu : u.In W) (hun : ∀ k, blk u.A u.n k ∨ blk u.B u.m k → k ≠ q ∧ k ≠ p)
    (hm : match v.rm.bun s with | none => e = 5 ∧ u.h = noH | some k => e = 0 ∧ u.h = v.rm.hr k) (h4 : tmps.getD 4 undef = .pointer (some ⟨q, 0, none⟩)) (h5 : tmps.getD 5 undef = .int .i64 e) (hce : (cs.setIfInBounds 0 (.slice u.A u.n u.c)).setIfInBounds 1 (.slice u.B u.m u.d) = u.arr) :
    bodyPostD Tryz.prog Tryz.f28 (RetBd v p s w) Exit.ret { tmps := tmps, defers := [{ target := .fn (.func 55) #[], args := #[.pointer (some ⟨p, 0, none⟩)] }] } ((W.setCell ⟨q, 0, none⟩ (.slice u.A u.n u.c)).setCell ⟨q, 1, none⟩ (.slice u.B u.m u.d)) := by
  have i2 := (hi.putq hqn 0 (.slice u.A u.n u.c)).putq hqn 1 (.slice u.B u.m u.d)
  have r2 := (hr.put hq 0 (.slice u.A u.n u.c)).put hq 1 (.slice u.B u.m u.d)
  have k2 := (hk.set 0 (.slice u.A u.n u.c)).set 1 (.slice u.B u.m u.d)
  rw [hce] at k2
  obtain ⟨a, b⟩ := i2.lock 0
  have hpq : q ≠ p := fun e => hqn p (.inl (.inl rfl)) e.symm
  have k3 := k2.far (p := ⟨p, 0, none⟩) hpq (.int .i32 0)
  have kp := (((Kp.refl (fun j => j = q ∨ j = p) W).set (p := ⟨q, 0, none⟩) (fun _ => .inl rfl) (.slice u.A u.n u.c)).set (p := ⟨q, 1, none⟩) (fun _ => .inl rfl) (.slice u.B u.m u.d)).set (p := ⟨p, 0, none⟩) (fun _ => .inr rfl) (.int .i32 0)
  refine unlock_door (At.cell i2.room 0) (i2.room.fz 0) (retB2 4 5 q u.arr rfl h4 k3 rfl) ?_
  rw [h5]
  exact ⟨u, e, rfl, hu.kb kp (fun j hj e => e.elim (hun j (.inl hj)).1 (hun j (.inl hj)).2) (fun j hj e => e.elim (hun j (.inr hj)).1 (hun j (.inr hj)).2), hm, a, r2.trans b⟩
set_option maxRecDepth 100000 in
set_option maxHeartbeats 1000000 in
theorem bundle_any (v : RV) (p : Nat) (s : List UInt8) (w : World) (h : v.In 0 p w) (hlb : v.bs.length ≤ 12) : Calls Tryz.prog 28 #[.pointer (some ⟨p, 0, none⟩), .string (mkB s)] w (RetBd v p s w) := by
  have hb0 := belowA w (.cells noArr 56)
  have h0 := h.below hb0
  have h1 : (w.alloc (.cells noArr 56)).cell? ⟨p, 0, none⟩ = some (.int .i32 0) := At.cell h0.room 0
  have f1 : (w.alloc (.cells noArr 56)).frozen? ⟨p, 0, none⟩ = false := h0.room.fz 0
  obtain ⟨l1, l2⟩ := h0.lock 1
  have HLT : Hid (∀ k, v.F p k ∨ v.C k → k < w.heap.size) := Lib.hid fun k hk => h.lt hk
  have HL1 := Lib.hid l1
  have HR1 := Lib.hid ((Rs.below (v := v) (p := p) hb0).trans l2)
  have hpq : w.heap.size ≠ p := fun e => by have := HLT.out p (.inl (.inl rfl)); omega
  have HK1 := Lib.hid ((At.new w noArr 56).far (p := ⟨p, 0, none⟩) hpq (.int .i32 1))
  have HQ : Hid (∀ k, v.F p k ∨ v.C k → k ≠ w.heap.size) := Lib.hid (fun k hk e => by have := HLT.out k hk; omega)
  clear h hb0 h0 l1 l2 hpq
  go_enter_defers Tryz.func28, Tryz.ntmps28
  go_wp2_with (go_at_call 54; refine (lock_free muLib ⟨p, 0, none⟩ _ h1 f1).mono ?_; rintro e w' ⟨rfl, rfl⟩)
  clear h1 f1
  generalize (w.alloc (.cells noArr 56)).setCell ⟨p, 0, none⟩ (.int .i32 1) = w1 at HL1 HR1 HK1 ⊢
  with_reducible refine (bundleR_any v 1 p s w1 HL1.out hlb).mono ?_
  rintro _ w2 ⟨rfl, hb⟩
  have HL2 := Lib.hid (HL1.out.below hb)
  have HR2 := Lib.hid (HR1.out.grow hb)
  have HK2 := Lib.hid (HK1.out.below hb)
  clear hb HL1 HR1 HK1
  cases hbb : v.rm.bun s with
  | none =>
    have HBB := Lib.hid hbb
    rw [show idxI none = -1 from rfl]
    have cr := HK2.out.cell
    have fr := HK2.out.fz
    clear hbb
    go_wp2_with fail
    exact bd_door (u := noB) rfl HL2.out HR2.out (Nat.le_refl _) HQ.out HK2.out (noB_in _) (fun k hk => by rcases hk with ⟨h, _⟩ | ⟨h, _⟩ <;> exact absurd rfl h) (by rw [HBB.out]; exact ⟨rfl, rfl⟩) rfl rfl rfl
  | some k =>
    rw [show idxI (some k) = (k : Int) from rfl]
    have hkn : ¬ ((k : Int) < 0) := by omega
    have HBB := Lib.hid hbb
    obtain ⟨y2, hy2, gb, hgb⟩ : ∃ y2 : NB, v.bs[k]? = some y2 ∧ ∃ gb, v.A = some ⟨gb, 0, none⟩ := by
      rw [bun_idx] at hbb
      obtain ⟨hk, _⟩ := List.findIdx?_eq_some_iff_getElem.1 hbb
      refine ⟨v.bs[k], List.getElem?_eq_getElem hk, ?_⟩
      exact own_form HL2.out.rb (by omega)
    have HY2 := Lib.hid hy2
    have hkl : k < v.bs.length := (List.getElem?_eq_some_iff.1 hy2).1
    have hkl' : (k : Int) < (v.bs.length : Int) := by omega
    have HHR : Hid (v.rm.hr k = y2.v.h) := Lib.hid (by rw [bs_at, hy2]; rfl)
    have hrob := HL2.out.rb
    have c2 : w2.cell? ⟨p, 2, none⟩ = some (.slice v.A v.bs.length v.ca) := At.cell HL2.out.room 2
    rw [hgb] at c2 hrob
    have b1 : w2.cell? ⟨gb, k * 3 + 1, none⟩ = some (.slice y2.v.A y2.v.n y2.v.c) := own_cell nb_len (by omega) hrob hy2 (j := 1) (by omega)
    have b2 : w2.cell? ⟨gb, k * 3 + 1 + 1, none⟩ = some (.slice y2.v.B y2.v.m y2.v.d) := own_cell nb_len (by omega) hrob hy2 (j := 2) (by omega)
    clear hrob hbb hy2 hgb
    go_wp2_with fail
    clear c2 b1 b2
    have hin := HL2.out.hb y2 (List.mem_of_getElem? HY2.out)
    with_reducible refine (copyB_any y2.v w2 hin).mono ?_
    rintro _ w3 ⟨u, hu, rfl, hui, hun, hb⟩
    have HL3 := Lib.hid (HL2.out.below hb)
    have HR3 := Lib.hid (HR2.out.grow hb)
    have HK3 := Lib.hid (HK2.out.below hb)
    have HU := Lib.hid hu
    have HI := Lib.hid hui
    have HN : Hid (∀ k, blk u.A u.n k ∨ blk u.B u.m k → k ≠ w.heap.size ∧ k ≠ p) := Lib.hid (fun k hk => by have h1 := hun k hk; have h2 := HK2.out.lt; have h3 := HL2.out.lt (.inl (.inl rfl) : v.F p p ∨ v.C p); omega)
    clear hb hu hui hun HL2 HR2 HK2 hin
    have cr := HK3.out.cell
    have fr := HK3.out.fz
    go_wp2_with fail
    exact bd_door rfl HL3.out HR3.out (Nat.le_refl _) HQ.out HK3.out HI.out HN.out (by rw [HBB.out]; exact ⟨rfl, by rw [HU.out, HHR.out]⟩) rfl rfl rfl
end Go.Proofs.YtihhclhpjgeniaaGreatDoor
namespace Go.Proofs.YtihhclhpjgeniaaGreatDoor
def knO : List (List UInt8) := [[98, 117, 121, 32, 97, 32, 49, 48, 32, 49, 48, 48, 32, 50, 52, 48],
  [119, 105, 103, 32, 119, 32, 97, 32, 54, 48, 32, 56],
  [107, 110, 111, 116, 32, 119, 32, 54, 48],
  [108, 101, 110, 100, 32, 119],
  [98, 97, 99, 107, 32, 119, 32, 53]]
def knS : List UInt8 := [115, 101, 108, 108, 32, 119, 32, 50, 48, 48, 48]
def knM : List UInt8 := [109, 101, 110, 100, 32, 119, 32, 97, 32, 53]
theorem cout_skip {y h : Lck} {i : Nat} (hh : ∀ k, k < 2 → ∀ n, 0 ≤ h k n) (hy : y 0 (i + 1) + y 1 (i + 1) = 0) : cout y (i + 1) h = cout y i h := by
  rw [show cout y (i + 1) h = if 0 < (cin (24 - i) (i + 1) h (y 0 (i + 1) + y 1 (i + 1))).2 then none else cout y i (cin (24 - i) (i + 1) h (y 0 (i + 1) + y 1 (i + 1))).1 from rfl, hy, cin_zero _ _ _ hh]
  rfl
theorem cout_skips {y h : Lck} (hh : ∀ k, k < 2 → ∀ n, 0 ≤ h k n) (i : Nat) : ∀ d, (∀ j, i ≤ j → j < i + d → y 0 (j + 1) + y 1 (j + 1) = 0) → cout y (i + d) h = cout y i h
  | 0, _ => rfl
  | d + 1, hy => by rw [show i + (d + 1) = i + d + 1 from rfl, cout_skip hh (hy (i + d) (by omega) (by omega)), cout_skips hh i d fun j h1 h2 => hy j h1 (by omega)]
theorem cin_skip {h : Lck} {c j : Nat} {need : Int} (hh : ∀ k, k < 2 → ∀ n, 0 ≤ h k n) (h0 : h 0 j + h 1 j = 0) (hn : 0 ≤ need) : cin (c + 1) j h need = cin c (j + 1) h need := by
  rw [show cin (c + 1) j h need = cin c (j + 1) (takeL h j (tk h (min need (h 0 j + h 1 j)) j)) (need - min need (h 0 j + h 1 j)) from rfl, h0, show min need 0 = 0 by omega, takeL_zero hh, Int.sub_zero]
theorem ofH_op {n : Int} {L : Nat} (hL : 1 ≤ L) (hn : n ≠ 0) (k m : Nat) : (ofH n L).op k m = if k = 0 ∧ m = L then n else 0 := by
  rw [show ofH n L = ⟨List.replicate (L - 1) 0 ++ [n], []⟩ by rw [ofH, if_neg hn]; rfl]
  unfold Hr.op
  rcases Nat.lt_or_ge 1 k with hk | hk
  · rw [if_neg (by omega), if_neg (by omega), if_neg (by omega)]
  rcases (show k = 0 ∨ k = 1 by omega) with rfl | rfl
  · rw [if_pos rfl]
    cases m with
    | zero => rw [if_neg (by omega)]; rfl
    | succ m =>
      show (List.replicate (L - 1) 0 ++ [n]).getD m 0 = _
      rw [List.getD_eq_getElem?_getD]
      rcases Nat.lt_trichotomy m (L - 1) with h | h | h
      · rw [List.getElem?_append_left (by simpa using h), List.getElem?_replicate, if_pos h, if_neg (by omega)]; rfl
      · subst h
        rw [List.getElem?_append_right (by simp)]
        simp [show L - 1 + 1 = L by omega]
      · rw [List.getElem?_eq_none (by simp; omega), if_neg (by omega)]; rfl
  · rw [if_neg (by omega), if_pos rfl, if_neg (by omega)]
    cases m <;> rfl
theorem ofH_in {n : Int} {L : Nat} (hL : 1 ≤ L) (hn : 0 < n) : ∀ k, k < 2 → ∀ m, 0 ≤ (ofH n L).op k m := fun k _ m => by
  rw [ofH_op hL (by omega)]; split <;> omega
theorem cut_one {N n : Int} {L K : Nat} (hL : 1 ≤ L) (hK : L ≤ K) (hK2 : K ≤ 24) (h1 : 0 < n) (h2 : n < N) : cutH (ofH N K) (ofH n L) = (0, tieH (ofH (N - n) K).op) := by
  have hN : 0 < N := by omega
  have hh := ofH_in (L := K) (by omega) hN
  have hs : ∀ d, L + d ≤ K → cin (25 - L) L (ofH N K).op n = cin (25 - L - d) (L + d) (ofH N K).op n := by
    intro d
    induction d with
    | zero => intro _; rfl
    | succ d ih =>
      intro hd
      rw [ih (by omega), show 25 - L - d = 25 - L - (d + 1) + 1 by omega, cin_skip hh (by rw [ofH_op (by omega) (by omega), ofH_op (by omega) (by omega), if_neg (by omega), if_neg (by omega)]; rfl) (by omega)]
      rfl
  have ha : (ofH N K).op 0 K = N := by rw [ofH_op (by omega) (by omega), if_pos ⟨rfl, rfl⟩]
  have hb : (ofH N K).op 1 K = 0 := by rw [ofH_op (by omega) (by omega), if_neg (by omega)]
  have ht : takeL (ofH N K).op K (tk (ofH N K).op n K) = (ofH (N - n) K).op := by
    funext k m
    rw [ofH_op (by omega) (by omega)]
    unfold takeL tk
    rw [ha, ofH_op (by omega) (by omega)]
    split
    · rename_i e; subst e
      rcases Nat.eq_zero_or_pos k with rfl | hk
      · rw [if_pos ⟨rfl, rfl⟩, if_pos rfl, if_pos ⟨rfl, rfl⟩]; omega
      · rw [if_neg (by omega), if_neg (by omega), if_neg (by omega)]; omega
    · rw [if_neg (by omega), if_neg (by omega)]
  have hc : cin (25 - L) L (ofH N K).op n = ((ofH (N - n) K).op, 0) := by
    rw [hs (K - L) (by omega), show L + (K - L) = K by omega, show 25 - L - (K - L) = 24 - K + 1 by omega]
    show cin (24 - K) (K + 1) (takeL (ofH N K).op K (tk (ofH N K).op (min n ((ofH N K).op 0 K + (ofH N K).op 1 K)) K)) (n - min n ((ofH N K).op 0 K + (ofH N K).op 1 K)) = _
    rw [ha, hb, show min n (N + 0) = n by omega, ht, Int.sub_self, cin_zero _ _ _ (ofH_in (by omega) (by omega))]
  have hco : cout (ofH n L).op 24 (ofH N K).op = some (ofH (N - n) K).op := by
    have e1 := cout_skips (y := (ofH n L).op) hh L (24 - L) fun j h3 h4 => by rw [ofH_op hL (by omega), ofH_op hL (by omega), if_neg (by omega), if_neg (by omega)]; rfl
    rw [show L + (24 - L) = 24 by omega] at e1
    rw [e1, show cout (ofH n L).op L (ofH N K).op = cout (ofH n L).op (L - 1 + 1) (ofH N K).op by rw [show L - 1 + 1 = L by omega]]
    rw [show cout (ofH n L).op (L - 1 + 1) (ofH N K).op = if 0 < (cin (24 - (L - 1)) (L - 1 + 1) (ofH N K).op ((ofH n L).op 0 (L - 1 + 1) + (ofH n L).op 1 (L - 1 + 1))).2 then none else cout (ofH n L).op (L - 1) (cin (24 - (L - 1)) (L - 1 + 1) (ofH N K).op ((ofH n L).op 0 (L - 1 + 1) + (ofH n L).op 1 (L - 1 + 1))).1 from rfl]
    have hy : (ofH n L).op 0 L + (ofH n L).op 1 L = n := by rw [ofH_op hL (by omega), if_pos ⟨rfl, rfl⟩, ofH_op hL (by omega), if_neg (by omega), Int.add_zero]
    rw [show L - 1 + 1 = L by omega, show 24 - (L - 1) = 25 - L by omega, hy, hc]
    have e2 := cout_skips (y := (ofH n L).op) (ofH_in (n := N - n) (L := K) (by omega) (by omega)) 0 (L - 1) fun j h3 h4 => by rw [ofH_op hL (by omega), ofH_op hL (by omega), if_neg (by omega), if_neg (by omega)]; rfl
    rw [Nat.zero_add] at e2
    show (if 0 < (0:Int) then none else cout (ofH n L).op (L - 1) (ofH (N - n) K).op) = _
    rw [if_neg (by decide), e2]
    rfl
  unfold cutH
  rw [hco]
def kn1 : Rm := ⟨[([97], ofH 100 10)], [], [[97]], 100, 0, -240, [knO.getD 0 []]⟩
def knW (done shed state price : Int) (card : List Ent) : Wg := { newW [119] [97] 60 8 with done := done, shed := shed, state := state, price := price, card := card }
def knR (h : Hr) (w : Wg) (lost cash : Int) (l : List (List UInt8)) : Rm := ⟨[([97], h)], [w], [[97], [119]], 100, lost, cash, l⟩
set_option maxRecDepth 1000000
theorem kn_1 : doR (knO.getD 0 []) rm0 = (0, kn1) := by kernel_rfl
theorem kn_h : tieH (ofH 40 10).op = ofH 40 10 := by kernel_rfl
theorem kn_h2 : tieH (ofH 35 10).op = ofH 35 10 := by kernel_rfl
theorem cut_1 : cutH (ofH 100 10) (ofH 60 8) = (0, ofH 40 10) := by
  have := cut_one (N := 100) (n := 60) (L := 8) (K := 10) (by decide) (by decide) (by decide) (by decide) (by decide)
  rw [← kn_h]; exact this
theorem cut_2 : cutH (ofH 40 10) (ofH 5 8) = (0, ofH 35 10) := by
  have := cut_one (N := 40) (n := 5) (L := 8) (K := 10) (by decide) (by decide) (by decide) (by decide) (by decide)
  rw [← kn_h2]; exact this
theorem begin_of {r : Rm} {n b : List UInt8} {count len : Int} {i : Nat} {h : Hr} (h1 : r.fresh n = true) (h2 : r.bun b = some i) (h3 : ¬ (len < 1 ∨ 24 < len ∨ count = 0)) (h4 : ¬ 12 ≤ r.ws.length) (h5 : cutH (r.hr i) (ofH count len) = (0, h)) :
    beginR r n b count len = (0, { r.setH i h with used := r.used ++ [n], ws := r.ws ++ [newW n b count len] }) := by
  unfold beginR
  rw [h1, if_neg (by decide), h2]
  simp only [if_neg h3, if_neg h4, h5, ne_eq, not_true_eq_false, if_false]
theorem mend_of {r : Rm} {a b : List UInt8} {n : Int} {i j : Nat} {h : Hr} {w : Wg} (h0 : inW r a 1 = (0, j, w)) (h2 : r.bun b = some i) (h3 : ¬ w.shed < n) (h5 : cutH (r.hr i) (ofH n w.len) = (0, h)) (h6 : addE w.card 0 (mkB (tMe ++ Lib.itoa n)) = 0) :
    mendR r a b n = (0, (r.setH i h).setW j { w with shed := w.shed - n, card := addR w.card 0 (mkB (tMe ++ Lib.itoa n)) }) := by
  unfold mendR
  rw [h0, h2]
  simp only [if_neg h3, h5, h6, ne_eq, not_true_eq_false, if_false]
theorem do_of {r r' : Rm} {t : List UInt8} {o : Ordr} (h1 : parseO t = some o) (h2 : ¬ 300 ≤ r.day.length) (h3 : doO r o = (0, r')) : doR t r = (0, { r' with day := r'.day ++ [t] }) := by
  unfold doR
  simp only [h1, if_neg h2, h3, ne_eq, not_true_eq_false, if_false]
theorem kn_2 : doR (knO.getD 1 []) kn1 = (0, knR (ofH 40 10) (knW 0 0 0 0 []) 0 (-240) (knO.take 2)) := by
  refine do_of (o := ⟨6, [[119], [97]], [], [60, 8]⟩) (r' := knR (ofH 40 10) (knW 0 0 0 0 []) 0 (-240) (knO.take 1)) (by kernel_rfl) (by decide) ?_
  show beginR kn1 [119] [97] 60 8 = _
  rw [begin_of (r := kn1) (n := [119]) (b := [97]) (count := 60) (len := 8) (i := 0) (h := ofH 40 10) (by kernel_rfl) (by kernel_rfl) (by decide) (by decide) cut_1]
  kernel_rfl
theorem kn_3 : doR (knO.getD 2 []) (knR (ofH 40 10) (knW 0 0 0 0 []) 0 (-240) (knO.take 2)) = (0, knR (ofH 40 10) (knW 60 0 1 0 []) 0 (-240) (knO.take 3)) := by kernel_rfl
theorem kn_4 : doR (knO.getD 3 []) (knR (ofH 40 10) (knW 60 0 1 0 []) 0 (-240) (knO.take 3)) = (0, knR (ofH 40 10) (knW 60 0 2 0 []) 0 (-240) (knO.take 4)) := by kernel_rfl
def knC1 : List Ent := addR [] 1 (mkB (tSh ++ Lib.itoa 5))
theorem kn_5 : doR (knO.getD 4 []) (knR (ofH 40 10) (knW 60 0 2 0 []) 0 (-240) (knO.take 4)) = (0, knR (ofH 40 10) (knW 60 5 1 0 knC1) 5 (-240) knO) := by kernel_rfl
theorem kn_6 : doR knS (knR (ofH 40 10) (knW 60 5 1 0 knC1) 5 (-240) knO) = (13, knR (ofH 40 10) (knW 60 5 1 0 knC1) 5 (-240) knO) := by kernel_rfl
def knC2 : List Ent := addR knC1 0 (mkB (tMe ++ Lib.itoa 5))
theorem kn_7 : doR knM (knR (ofH 40 10) (knW 60 5 1 0 knC1) 5 (-240) knO) = (0, knR (ofH 35 10) (knW 60 0 1 0 knC2) 5 (-240) (knO ++ [knM])) := by
  refine do_of (o := ⟨16, [[119], [97]], [], [5]⟩) (r' := knR (ofH 35 10) (knW 60 0 1 0 knC2) 5 (-240) knO) (by kernel_rfl) (by decide) ?_
  show mendR _ [119] [97] 5 = _
  rw [mend_of (r := knR (ofH 40 10) (knW 60 5 1 0 knC1) 5 (-240) knO) (a := [119]) (b := [97]) (n := 5) (i := 0) (j := 0) (w := knW 60 5 1 0 knC1) (h := ofH 35 10) (by kernel_rfl) (by kernel_rfl) (by decide) cut_2 (by kernel_rfl)]
  kernel_rfl
theorem kn_8 : doR knS (knR (ofH 35 10) (knW 60 0 1 0 knC2) 5 (-240) (knO ++ [knM])) = (0, knR (ofH 35 10) (knW 60 0 3 2000 knC2) 5 1760 (knO ++ [knM] ++ [knS])) := by kernel_rfl
end Go.Proofs.YtihhclhpjgeniaaGreatDoor
