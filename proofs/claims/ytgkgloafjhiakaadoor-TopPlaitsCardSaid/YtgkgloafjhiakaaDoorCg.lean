/- Changes of words: plain. -/
import Derived.Test.YtgkgloafjhiakaaDoorTw
import Derived.Test.YtgkgloafjhiakaaDoorEn
namespace Go.Proofs.YtgkgloafjhiakaaDoor
open Go.RowKit Go.Sort

/-- Where the strands are behind a word. -/
def atL (l : List UInt8) (a : T3) : T3 := l.foldl (fun a c => swp c a) a
theorem atL_append (u v : List UInt8) (a : T3) : atL (u ++ v) a = atL v (atL u a) := by simp [atL, List.foldl_append]
theorem runL_at (l : List UInt8) : (runL l).at3 = atL l (0, 1, 2) := by
  refine snocL (P := fun l => (runL l).at3 = atL l (0, 1, 2)) rfl (fun l c ih => ?_) l
  rw [runL_snoc, atL_append, ← ih]; rfl
/-- The same plait, with the same ends. -/
structure Alike (u v : List UInt8) : Prop where
  mat : matL u = matL v
  cnt : cntL u = cntL v
  ends : ∀ a, atL u a = atL v a
theorem Alike.refl (u : List UInt8) : Alike u u := ⟨rfl, rfl, fun _ => rfl⟩
theorem Alike.trans {u v w : List UInt8} (h : Alike u v) (g : Alike v w) : Alike u w := ⟨h.mat.trans g.mat, h.cnt.trans g.cnt, fun a => (h.ends a).trans (g.ends a)⟩
theorem Alike.inside {u v : List UInt8} (h : Alike u v) (x y : List UInt8) : Alike (x ++ (u ++ y)) (x ++ (v ++ y)) := by
  refine ⟨?_, ?_, fun a => ?_⟩
  · rw [matL_append, matL_append, matL_append, matL_append, h.mat]
  · rw [cntL_append, cntL_append, cntL_append, cntL_append, h.cnt]
  · rw [atL_append, atL_append, atL_append, atL_append, h.ends]
theorem Alike.endsL {u v : List UInt8} (h : Alike u v) : endsL u = endsL v := by unfold Go.Proofs.YtgkgloafjhiakaaDoor.endsL; rw [runL_at, runL_at, h.ends]
theorem alike_pair {c : UInt8} (h : isL c) : Alike [] [c, c ^^^ 32] := by
  refine ⟨?_, ?_, fun a => ?_⟩
  · rw [show matL [c, c ^^^ 32] = mulM (matL [c]) (ltM (c ^^^ 32)) from rfl, show matL [c] = ltM c from oneM_mul _, ltM_opp2 h]; rfl
  · have := sgL_opp h
    show 0 = sgL c + (sgL (c ^^^ 32) + 0)
    omega
  · rcases h with rfl | rfl | rfl | rfl <;> rfl
theorem alike_half : Alike [97, 98, 97] [98, 97, 98] := ⟨by decide, by decide, fun _ => rfl⟩
theorem Alike.symm {u v : List UInt8} (h : Alike u v) : Alike v u := ⟨h.mat.symm, h.cnt.symm, fun a => (h.ends a).symm⟩
/-- What a change writes in front. -/
def putC (k : Nat) : List UInt8 := if k = 0 then [97, 65] else if k = 1 then [65, 97] else if k = 2 then [98, 66] else [66, 98]
theorem alike_put (k : Nat) : Alike [] (putC k) := by
  unfold putC
  split
  · exact alike_pair (c := 97) (by decide)
  · split
    · exact alike_pair (c := 65) (by decide)
    · split
      · exact alike_pair (c := 98) (by decide)
      · exact alike_pair (c := 66) (by decide)
/-- A word after a change at a place. -/
def chgL (w : List UInt8) (a k : Nat) : List UInt8 :=
  if k < 4 then w.take a ++ (putC k ++ w.drop a)
  else if w.length < a + 3 then w
  else if (w.drop a).take 3 = [97, 98, 97] then w.take a ++ ([98, 97, 98] ++ w.drop (a + 3))
  else if (w.drop a).take 3 = [98, 97, 98] then w.take a ++ ([97, 98, 97] ++ w.drop (a + 3))
  else w
theorem three_parts {w m : List UInt8} {a : Nat} (h : (w.drop a).take 3 = m) : w = w.take a ++ (m ++ w.drop (a + 3)) := by
  rw [← h, ← List.drop_drop, List.take_append_drop, List.take_append_drop]
theorem alike_chg (w : List UInt8) (a k : Nat) : Alike w (chgL w a k) := by
  unfold chgL
  split
  · have := (alike_put k).inside (w.take a) (w.drop a)
    rwa [List.nil_append, List.take_append_drop] at this
  · split
    · exact .refl w
    · split
      · rename_i h
        have := alike_half.inside (w.take a) (w.drop (a + 3))
        rwa [← three_parts h] at this
      · split
        · rename_i h
          have := alike_half.symm.inside (w.take a) (w.drop (a + 3))
          rwa [← three_parts h] at this
        · exact .refl w
end Go.Proofs.YtgkgloafjhiakaaDoor
