/- Walks: all edges, on both sides. -/
import Derived.Test.YtfaleddacmbidaaDoorOwn
import Derived.Test.YtfaleddacmbidaaDoorW4
namespace Go.Proofs.YtfaleddacmbidaaDoor
open Go.RowKit Go.Sort

/-- A slice of these edges is returned; the world has only grown. -/
def RetEdges (es : List Edg) (w : World) (r : Ending) (w' : World) : Prop := ∃ A c, r = .returned (.slice A es.length c) ∧ Reads w' w'.heap.size 3 A es.length (edgs es) ∧ Below w.heap.size w w'

theorem ups_succ (W H x y : Int) (n : Nat) : ups W H x y (n + 1) = ups W H x y n ++ if isE W H (x, y, (n : Int)) then [(x, y, (n : Int))] else [] := by
  unfold ups
  rw [List.range_succ, List.map_append, List.filter_append]
  congr 1
  simp only [List.map_cons, List.map_nil, List.filter_cons, List.filter_nil]
theorem rowP_succ (W H y : Int) (n : Nat) : rowP W H y (n + 1) = rowP W H y n ++ ups W H n y 2 := by
  unfold rowP; rw [List.range_succ, List.flatMap_append]; simp
theorem edgesP_succ (W H : Int) (n : Nat) : edgesP W H (n + 1) = edgesP W H n ++ rowP W H n W.toNat := by
  unfold edgesP; rw [List.range_succ, List.flatMap_append]; simp
theorem ups_le (W H x y : Int) (n : Nat) : (ups W H x y n).length ≤ n := by
  unfold ups; exact Nat.le_trans (List.length_filter_le _ _) (by simp)
theorem rowP_le (W H y : Int) (n : Nat) : (rowP W H y n).length ≤ 2 * n := by
  induction n with
  | zero => simp [rowP]
  | succ n ih => rw [rowP_succ, List.length_append]; have := ups_le W H n y 2; omega
theorem edgesP_le (W H : Int) (n : Nat) (h : W ≤ 12) : (edgesP W H n).length ≤ 24 * n := by
  induction n with
  | zero => simp [edgesP]
  | succ n ih => rw [edgesP_succ, List.length_append]; have := rowP_le W H n W.toNat; omega

theorem edges_any (v : FV) (w : World) (w1' : 1 ≤ v.f.W) (w2' : v.f.W ≤ 12) (h1' : 1 ≤ v.f.H) (h2' : v.f.H ≤ 12) :
    Calls Tryd.prog 30 #[v.val] w (RetEdges (edgesP v.f.W v.f.H v.f.H.toNat) w) := by
  go_enter Tryd.func30, Tryd.ntmps30
  dsimp only [FV.val]
  go_wp2_with fail
  refine wp_gen (fun w1 => Box w1 w.heap.size #[.int .i64 v.f.W, .int .i64 v.f.H, .slice v.A v.n v.c, .slice v.B v.m v.d] ∧ Below w.heap.size w w1) ⟨Box.new _ _ _, belowA _ _⟩ ?_
  rintro w1 ⟨b0, hw10⟩
  have hw1 := Lib.hid hw10
  clear hw10
  go_loopw [3, 10] (fun out i wr => ∃ y : Nat, y ≤ v.f.H ∧ i = .int .i64 y ∧ Own w1 wr out (edgesP v.f.W v.f.H y)) (fun _ i _ => (v.f.H - intOf i).toNat)
  case atStart => exact ⟨0, by omega, rfl, Own.nil _⟩
  case round =>
    obtain ⟨y, hy, rfl, hown0⟩ := hrel
    have c0 := (b0.below hown0.bel).at
    have hown := Lib.hid hown0
    clear hown0
    by_cases hlt : (y : Int) < v.f.H
    · go_wp2_with fail
      obtain ⟨wo, rfl⟩ : ∃ wo : World, wo = wr := ⟨_, rfl⟩
      clear c0
      go_loopw [3, 15] (fun out i wr => ∃ x : Nat, x ≤ v.f.W ∧ i = .int .i64 x ∧ Own w1 wr out (edgesP v.f.W v.f.H y ++ rowP v.f.W v.f.H y x)) (fun _ i _ => (v.f.W - intOf i).toNat)
      case atStart => exact ⟨0, by omega, rfl, by simpa [rowP] using hown.out⟩
      case round =>
        clear hown
        obtain ⟨x, hx, rfl, hown0⟩ := hrel
        have c0 := (b0.below hown0.bel).at
        have hown := Lib.hid hown0
        clear hown0
        by_cases hltx : (x : Int) < v.f.W
        · go_wp2_with fail
          obtain ⟨wp, rfl⟩ : ∃ wp : World, wp = wr := ⟨_, rfl⟩
          clear c0
          go_loopw [3, 18] (fun out i wr => ∃ u : Nat, u ≤ 2 ∧ i = .int .i64 u ∧ Own w1 wr out (edgesP v.f.W v.f.H y ++ rowP v.f.W v.f.H y x ++ ups v.f.W v.f.H x y u)) (fun _ i _ => (2 - intOf i).toNat)
          case atStart => exact ⟨0, by omega, rfl, by simpa [ups] using hown.out⟩
          case round =>
            clear hown
            obtain ⟨u, hu, rfl, hown0⟩ := hrel
            have b1 := b0.below hown0.bel
            have c0 := b1.at
            have c1 := fun o => (b1.alloc o).at
            have hown := Lib.hid hown0
            clear hown0
            by_cases hltu : (u : Int) < 2
            · go_wp2_with fail
              refine (hasEdge_any v (x, y, u) _ w1' (by omega) h1' (by omega)).mono ?_
              rintro r w3 ⟨rfl, hb3⟩
              have b3 := (Box.new _ _ _).below hb3
              have d3 := b3.at
              have b4 := (b1.alloc _).below hb3
              have d4 := b4.at
              have hown3 := hown.out.on (below_trans' (belowA _ _) hb3)
              have hown4 := Lib.hid hown3
              have hlen : (edgesP v.f.W v.f.H y ++ rowP v.f.W v.f.H y x ++ ups v.f.W v.f.H x y u).length < 1000000000 := by
                have := edgesP_le v.f.W v.f.H y w2'
                have := rowP_le v.f.W v.f.H y x
                have := ups_le v.f.W v.f.H x y u
                simp only [List.length_append]; omega
              have hs := Lib.hid (ups_succ v.f.W v.f.H x y u)
              clear hown c0 c1 hown3 b1 hb3
              cases he : isE v.f.W v.f.H (x, y, (u : Int))
              · have HE := Lib.hid he
                clear he
                go_wp2_with fail
                go_roundw
                case rel => exact ⟨u + 1, by omega, by go_num, by rw [hs.out, HE.out]; simpa using hown4.out⟩
                case measure => simp [intOf]; omega
              · have HE := Lib.hid he
                clear he
                go_wp2_with (at_builtin; refine wpList_push rfl _ _ rfl w1 _ _ _ (x, y, u) _ rfl (hown4.out.on (belowA _ _)) rfl (Box.new _ _ _) hlen ?_; intro v' w' hown'; have hown5 := Lib.hid hown'; clear hown')
                go_roundw
                case rel => exact ⟨u + 1, by omega, by go_num, by rw [hs.out, HE.out]; simpa using hown5.out⟩
                case measure => simp [intOf]; omega
            · obtain rfl : u = 2 := by omega
              go_wp2_with fail
              go_roundw
              case rel => exact ⟨x + 1, by omega, by go_num, by rw [rowP_succ]; simpa using hown.out⟩
              case measure => simp [intOf]; omega
        · obtain hxe : x = v.f.W.toNat := by omega
          have HX := Lib.hid hxe
          clear hxe
          go_wp2_with fail
          go_roundw
          case rel => exact ⟨y + 1, by omega, by go_num, by rw [edgesP_succ, ← HX.out]; exact hown.out⟩
          case measure => simp [intOf]; omega
    · obtain hye : y = v.f.H.toNat := by omega
      have HY := Lib.hid hye
      clear hye
      obtain ⟨A, c, hv, hr⟩ := hown.out.form
      have HR := Lib.hid hr
      clear hr
      subst hv
      go_wp2_with fail
      go_ret
      rw [← HY.out]
      exact ⟨A, c, rfl, HR.out, below_trans' hw1.out hown.out.bel⟩
theorem colR_succ (W H x : Int) (n : Nat) : colR W H x (n + 1) = colR W H x n ++ ups W H x n 2 := by
  unfold colR; rw [List.range_succ, List.flatMap_append]; simp
theorem edgesR_succ (W H : Int) (n : Nat) : edgesR W H (n + 1) = edgesR W H n ++ colR W H n H.toNat := by
  unfold edgesR; rw [List.range_succ, List.flatMap_append]; simp
theorem colR_le (W H x : Int) (n : Nat) : (colR W H x n).length ≤ 2 * n := by
  induction n with
  | zero => simp [colR]
  | succ n ih => rw [colR_succ, List.length_append]; have := ups_le W H x n 2; omega
theorem edgesR_le (W H : Int) (n : Nat) (h : H ≤ 12) : (edgesR W H n).length ≤ 24 * n := by
  induction n with
  | zero => simp [edgesR]
  | succ n ih => rw [edgesR_succ, List.length_append]; have := colR_le W H n H.toNat; omega

theorem refEdges_any (v : FV) (w : World) (w1' : 1 ≤ v.f.W) (w2' : v.f.W ≤ 12) (h1' : 1 ≤ v.f.H) (h2' : v.f.H ≤ 12) :
    Calls Tryd.prog 37 #[v.val] w (RetEdges (edgesR v.f.W v.f.H v.f.W.toNat) w) := by
  go_enter Tryd.func37, Tryd.ntmps37
  dsimp only [FV.val]
  go_wp2_with fail
  refine wp_gen (fun w1 => Box w1 w.heap.size #[.int .i64 v.f.W, .int .i64 v.f.H, .slice v.A v.n v.c, .slice v.B v.m v.d] ∧ Below w.heap.size w w1) ⟨Box.new _ _ _, belowA _ _⟩ ?_
  rintro w1 ⟨b0, hw10⟩
  have hw1 := Lib.hid hw10
  clear hw10
  go_loopw [3, 4] (fun out i wr => ∃ x : Nat, x ≤ v.f.W ∧ i = .int .i64 x ∧ Own w1 wr out (edgesR v.f.W v.f.H x)) (fun _ i _ => (v.f.W - intOf i).toNat)
  case atStart => exact ⟨0, by omega, rfl, Own.nil _⟩
  case round =>
    obtain ⟨x, hx, rfl, hown0⟩ := hrel
    have c0 := (b0.below hown0.bel).at
    have hown := Lib.hid hown0
    clear hown0
    by_cases hlt : (x : Int) < v.f.W
    · go_wp2_with fail
      obtain ⟨wo, rfl⟩ : ∃ wo : World, wo = wr := ⟨_, rfl⟩
      clear c0
      go_loopw [3, 5] (fun out i wr => ∃ y : Nat, y ≤ v.f.H ∧ i = .int .i64 y ∧ Own w1 wr out (edgesR v.f.W v.f.H x ++ colR v.f.W v.f.H x y)) (fun _ i _ => (v.f.H - intOf i).toNat)
      case atStart => exact ⟨0, by omega, rfl, by simpa [colR] using hown.out⟩
      case round =>
        clear hown
        obtain ⟨y, hy, rfl, hown0⟩ := hrel
        have c0 := (b0.below hown0.bel).at
        have hown := Lib.hid hown0
        clear hown0
        by_cases hlty : (y : Int) < v.f.H
        · go_wp2_with fail
          obtain ⟨wp, rfl⟩ : ∃ wp : World, wp = wr := ⟨_, rfl⟩
          clear c0
          go_loopw [3, 6] (fun out i wr => ∃ u : Nat, u ≤ 2 ∧ i = .int .i64 u ∧ Own w1 wr out (edgesR v.f.W v.f.H x ++ colR v.f.W v.f.H x y ++ ups v.f.W v.f.H x y u)) (fun _ i _ => (2 - intOf i).toNat)
          case atStart => exact ⟨0, by omega, rfl, by simpa [ups] using hown.out⟩
          case round =>
            clear hown
            obtain ⟨u, hu, rfl, hown0⟩ := hrel
            have b1 := b0.below hown0.bel
            have c0 := b1.at
            have c1 := fun o => (b1.alloc o).at
            have hown := Lib.hid hown0
            clear hown0
            by_cases hltu : (u : Int) < 2
            · go_wp2_with fail
              refine (isEdge_any v (x, y, u) _ w1' (by omega) h1' (by omega)).mono ?_
              rintro r w3 ⟨rfl, hb3⟩
              have b3 := (Box.new _ _ _).below hb3
              have d3 := b3.at
              have b4 := (b1.alloc _).below hb3
              have d4 := b4.at
              have hown3 := hown.out.on (below_trans' (belowA _ _) hb3)
              have hown4 := Lib.hid hown3
              have hlen : (edgesR v.f.W v.f.H x ++ colR v.f.W v.f.H x y ++ ups v.f.W v.f.H x y u).length < 1000000000 := by
                have := edgesR_le v.f.W v.f.H x h2'
                have := colR_le v.f.W v.f.H x y
                have := ups_le v.f.W v.f.H x y u
                simp only [List.length_append]; omega
              have hs := Lib.hid (ups_succ v.f.W v.f.H x y u)
              clear hown c0 c1 hown3 b1 hb3
              cases he : isE v.f.W v.f.H (x, y, (u : Int))
              · have HE := Lib.hid he
                clear he
                go_wp2_with fail
                go_roundw
                case rel => exact ⟨u + 1, by omega, by go_num, by rw [hs.out, HE.out]; simpa using hown4.out⟩
                case measure => simp [intOf]; omega
              · have HE := Lib.hid he
                clear he
                go_wp2_with (at_builtin; refine wpList_push rfl _ _ rfl w1 _ _ _ (x, y, u) _ rfl (hown4.out.on (belowA _ _)) rfl (Box.new _ _ _) hlen ?_; intro v' w' hown'; have hown5 := Lib.hid hown'; clear hown')
                go_roundw
                case rel => exact ⟨u + 1, by omega, by go_num, by rw [hs.out, HE.out]; simpa using hown5.out⟩
                case measure => simp [intOf]; omega
            · obtain rfl : u = 2 := by omega
              go_wp2_with fail
              go_roundw
              case rel => exact ⟨y + 1, by omega, by go_num, by rw [colR_succ]; simpa using hown.out⟩
              case measure => simp [intOf]; omega
        · obtain hye : y = v.f.H.toNat := by omega
          have HY := Lib.hid hye
          clear hye
          go_wp2_with fail
          go_roundw
          case rel => exact ⟨x + 1, by omega, by go_num, by rw [edgesR_succ, ← HY.out]; exact hown.out⟩
          case measure => simp [intOf]; omega
    · obtain hxe : x = v.f.W.toNat := by omega
      have HX := Lib.hid hxe
      clear hxe
      obtain ⟨A, c, hv, hr⟩ := hown.out.form
      have HR := Lib.hid hr
      clear hr
      subst hv
      go_wp2_with fail
      go_ret
      rw [← HX.out]
      exact ⟨A, c, rfl, HR.out, below_trans' hw1.out hown.out.bel⟩
end Go.Proofs.YtfaleddacmbidaaDoor
