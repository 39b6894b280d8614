/- Merged texts: Wb Hp Hm Kp -/
import Derived.Test.YtihhclhpjgeniaaGreatDoorSB2
import Derived.Test.YtihhclhpjgeniaaGreatDoorSB4
import Derived.Test.YtihhclhpjgeniaaGreatDoorSB5
import Derived.Test.YtihhclhpjgeniaaGreatDoorSB7
import Derived.Lib.ItoaLen
import Derived.Deep.MidRow
import Derived.Deep.WholeRow
namespace Go.Proofs.YtihhclhpjgeniaaGreatDoor
open Go.RowKit Go.Sort
abbrev isB (w : World) (B b : Nat) (l : List UInt8) : Prop := Lib.IsBuilder 192 5 B b (Lib.byteCells l) w
theorem isB_new (w : World) : isB (w.alloc (.cells #[.pointer none, .slice none 0 0] 192)) w.heap.size w.heap.size [] :=
 .inl ⟨Nat.le_refl _, .slice none 0 0, heap_alloc_new w _, World.ownsRow_nil _ _ _ _, by simp [Value.ownBlock]⟩
theorem byteCells_append (a b : List UInt8) : Lib.byteCells a ++ Lib.strCells ⟨b.toArray⟩ = Lib.byteCells (a ++ b) := by
 simp [Lib.byteCells, Lib.strCells]
theorem ws_any (B b : Nat) (l r : List UInt8) (w : World) (h : isB w B b l) (hlen : l.length + r.length ≤ 1000000) (hBw : B ≤ w.heap.size) :
  Calls Tryz.prog 126 #[.pointer (some ⟨b, 0, none⟩), .string ⟨r.toArray⟩] w fun e w' => (∃ n, e = .returned (.tuple #[.int .i64 n, .nilIface])) ∧ isB w' B b (l ++ r) ∧ Below B w w' ∧ Lib.OthersKept 5 (some b) w w' :=
 (writeString_any B b (Lib.byteCells l) ⟨r.toArray⟩ w h (by rw [Lib.byteCells_length]; show _ + r.toArray.size ≤ _; simpa using hlen) hBw).mono fun e w' ⟨h1, h2, h3, h4⟩ => ⟨⟨_, h1⟩, .inr (by rw [byteCells_append] at h2; exact h2), h3, h4⟩
theorem bs_any (B b : Nat) (l : List UInt8) (w : World) (h : isB w B b l) (hBw : B ≤ w.heap.size) :
  Calls Tryz.prog 127 #[.pointer (some ⟨b, 0, none⟩)] w fun e w' => e = .returned (.string ⟨l.toArray⟩) ∧ Below B w w' := Tryz.Builder_String_any B b l w h hBw
abbrev At (w : World) (b : Nat) (cs : Array Value) (t : TypeId) : Prop := w.heap[b]? = some (.cells cs t (0, 0))
theorem At.below {w w' : World} {b : Nat} {cs : Array Value} {t : TypeId} (h : At w b cs t) (hb : Below w.heap.size w w') : At w' b cs t :=
 (hb.block b (Array.getElem?_eq_some_iff.1 h).1).trans h
def fits (n : Int) : Prop := -9223372036854775808 ≤ n ∧ n ≤ 9223372036854775807
abbrev Tab (w : World) : Prop := Lib.TabIs Tryz.prog w "internal/strconv.uint64pow10" .u64 Lib.pow10Tab
theorem tab_glob : Tryz.prog.globalNamed "internal/strconv.uint64pow10" = some 0 := by kernel_rfl
theorem tab_size {w : World} (h : Tab w) : 0 < w.heap.size := by
 simp only [Tab, Lib.TabIs, World.var?, tab_glob, Option.bind_some] at h
 rcases Nat.lt_or_ge 0 w.heap.size with h1 | h1
 ·exact h1
 ·rw [Array.getElem?_eq_none h1] at h; cases h
theorem tab_kept {w w' : World} {b : Nat} (h : Tab w) (hb : Below b w w') (hk : 0 < b) : Tab w' := by
 simp only [Tab, Lib.TabIs, World.var?, tab_glob, Option.bind_some] at h ⊢
 rw [hb.block 0 hk]
 exact h
theorem tab_below {w w' : World} (h : Tab w) (hb : Below w.heap.size w w') : Tab w' := tab_kept h hb (tab_size h)
theorem itoa_any (n : Int) (w : World) (h : fits n) (ht : Tab w) : Calls Tryz.prog 25 #[.int .i64 n] w fun r w' => r = .returned (.string ⟨(Lib.itoa n).toArray⟩) ∧ Below w.heap.size w w' :=
 (Tryz.strconv_Itoa n h.1 h.2 w ht).mono fun r w' ⟨h1, k, os, h2⟩ => ⟨h1, by rw [h2]; exact below_drewGrow w k os⟩
theorem itoa_len {n : Int} (h : fits n) : (Lib.itoa n).length ≤ 21 := Lib.itoa_length_le n h.1 h.2
end Go.Proofs.YtihhclhpjgeniaaGreatDoor
namespace Go.Proofs.YtihhclhpjgeniaaGreatDoor
open Go.RowKit
abbrev Lck := Nat → Nat → Int
structure Hr where
 R : List Int
 W : List Int
deriving DecidableEq
def at1 (l : List Int) : Nat → Int
 | 0 => 0
 | n + 1 => l.getD n 0
def Hr.op (b : Hr) : Lck := fun k n => if k = 0 then at1 b.R n else if k = 1 then at1 b.W n else 0
def trimL (l : List Int) : List Int := (l.reverse.dropWhile (· == 0)).reverse
def lens (h : Lck) (k : Nat) : List Int := (List.range 24).map fun i => h k (i + 1)
def tieH (h : Lck) : Hr := ⟨trimL (lens h 0), trimL (lens h 1)⟩
def noH : Hr := ⟨[], []⟩
structure Hr.Ok (b : Hr) : Prop where
 r : b.R.length ≤ 24
 w : b.W.length ≤ 24
 br : ∀ z ∈ b.R, 0 ≤ z ∧ z ≤ 1000000
 bw : ∀ z ∈ b.W, 0 ≤ z ∧ z ≤ 1000000
def Lck.In (h : Lck) (M : Int) : Prop := ∀ k n, 0 ≤ h k n ∧ h k n ≤ M
theorem Lck.In.mono {h : Lck} {M N : Int} (k : h.In M) (hM : M ≤ N) : h.In N := fun i n => ⟨(k i n).1, by have := (k i n).2; omega⟩
theorem at1_in {l : List Int} (h : ∀ z ∈ l, 0 ≤ z ∧ z ≤ 1000000) : ∀ n, 0 ≤ at1 l n ∧ at1 l n ≤ 1000000
 | 0 => by simp [at1]
 | n + 1 => by
  show 0 ≤ l.getD n 0 ∧ l.getD n 0 ≤ 1000000
  rw [List.getD_eq_getElem?_getD]
  rcases Nat.lt_or_ge n l.length with hn | hn
  ·rw [List.getElem?_eq_getElem hn]
   exact h _ (List.getElem_mem hn)
  ·rw [List.getElem?_eq_none hn]; simp
theorem Hr.Ok.op {b : Hr} (h : b.Ok) : b.op.In 1000000 := fun k n => by
 unfold Hr.op
 split
 ·exact at1_in h.br n
 ·split
  ·exact at1_in h.bw n
  ·omega
theorem at1_far {l : List Int} (h : l.length ≤ 24) {n : Nat} (hn : 24 < n) : at1 l n = 0 := by
 cases n with
 | zero => rfl
 | succ n =>
  show l.getD n 0 = 0
  rw [List.getD_eq_getElem?_getD, List.getElem?_eq_none (by omega)]; rfl
theorem noH_ok : noH.Ok := ⟨by simp [noH], by simp [noH], by simp [noH], by simp [noH]⟩
theorem trimL_zero (l : List Int) : trimL (l ++ [0]) = trimL l := by simp [trimL]
theorem trimL_snoc (l : List Int) {x : Int} (h : x ≠ 0) : trimL (l ++ [x]) = l ++ [x] := by simp [trimL, h]
theorem trimL_take (l : List Int) : ∃ m, m ≤ l.length ∧ trimL l = l.take m := by
 refine snoc_ind (P := fun l => ∃ m, m ≤ l.length ∧ trimL l = l.take m) ⟨0, by simp, rfl⟩ ?_ l
 ·intro l x ih
  obtain ⟨m, hm, he⟩ := ih
  by_cases h : x = 0
  ·subst h
   exact ⟨m, by simp; omega, by rw [trimL_zero, he, List.take_append_of_le_length hm]⟩
  ·exact ⟨l.length + 1, by simp, by rw [trimL_snoc l h, List.take_of_length_le (by simp)]⟩
theorem trimL_mem {l : List Int} {x : Int} (h : x ∈ trimL l) : x ∈ l := by
 obtain ⟨m, _, he⟩ := trimL_take l
 rw [he] at h
 exact List.mem_of_mem_take h
theorem trimL_len (l : List Int) : (trimL l).length ≤ l.length := by
 obtain ⟨m, hm, he⟩ := trimL_take l
 rw [he, List.length_take]; omega
theorem at1_trim : ∀ (l : List Int) (n : Nat), at1 (trimL l) n = at1 l n := by
 intro l
 refine snoc_ind (P := fun l => ∀ n, at1 (trimL l) n = at1 l n) (fun n => rfl) ?_ l
 ·intro l x ih n
  by_cases h : x = 0
  ·subst h
   rw [trimL_zero, ih]
   cases n with
   | zero => rfl
   | succ n =>
    show l.getD n 0 = (l ++ [0]).getD n 0
    simp only [List.getD_eq_getElem?_getD]
    rcases Nat.lt_trichotomy n l.length with hn | hn | hn
    ·rw [List.getElem?_append_left hn]
    ·subst hn; simp
    ·rw [List.getElem?_eq_none (by omega), List.getElem?_eq_none (by simp; omega)]
  ·rw [trimL_snoc l h]
theorem lens_length (h : Lck) (k : Nat) : (lens h k).length = 24 := by simp [lens]
theorem lens_get (h : Lck) (k : Nat) {i : Nat} (hi : i < 24) : (lens h k)[i]? = some (h k (i + 1)) := by simp [lens, hi]
theorem at1_lens (h : Lck) (k : Nat) {n : Nat} (h0 : 0 < n) (hn : n ≤ 24) : at1 (lens h k) n = h k n := by
 obtain ⟨m, rfl⟩ : ∃ m, n = m + 1 := ⟨n - 1, by omega⟩
 show (lens h k).getD m 0 = _
 rw [List.getD_eq_getElem?_getD, lens_get h k (by omega)]; rfl
theorem op_tie (h : Lck) {k n : Nat} (hk : k < 2) (h0 : 0 < n) (hn : n ≤ 24) : (tieH h).op k n = h k n := by
 unfold Hr.op tieH
 rcases (show k = 0 ∨ k = 1 by omega) with rfl | rfl
 ·rw [if_pos rfl, at1_trim, at1_lens h 0 h0 hn]
 ·rw [if_neg (by omega), if_pos rfl, at1_trim, at1_lens h 1 h0 hn]
theorem lens_mem {h : Lck} {k : Nat} {z : Int} (hz : z ∈ lens h k) : ∃ n, 1 ≤ n ∧ n ≤ 24 ∧ z = h k n := by
 simp only [lens, List.mem_map, List.mem_range] at hz
 obtain ⟨i, hi, rfl⟩ := hz
 exact ⟨i + 1, by omega, by omega, rfl⟩
theorem tie_ok {h : Lck} (hh : ∀ k, k < 2 → ∀ n, 1 ≤ n → n ≤ 24 → 0 ≤ h k n ∧ h k n ≤ 1000000) : (tieH h).Ok := by
 refine ⟨?_, ?_, ?_, ?_⟩
 ·exact Nat.le_trans (trimL_len _) (by rw [lens_length]; omega)
 ·exact Nat.le_trans (trimL_len _) (by rw [lens_length]; omega)
 ·intro z hz
  obtain ⟨n, a, b, rfl⟩ := lens_mem (trimL_mem hz)
  exact hh 0 (by omega) n a b
 ·intro z hz
  obtain ⟨n, a, b, rfl⟩ := lens_mem (trimL_mem hz)
  exact hh 1 (by omega) n a b
theorem tie_congr {h g : Lck} (hh : ∀ k, k < 2 → ∀ n, 1 ≤ n → n ≤ 24 → h k n = g k n) : tieH h = tieH g := by
 have e : ∀ k, k < 2 → lens h k = lens g k := fun k hk => by
  unfold lens
  refine List.map_congr_left fun i hi => hh k hk _ (by omega) (by have := List.mem_range.1 hi; omega)
 unfold tieH
 rw [e 0 (by omega), e 1 (by omega)]
def sumTo (f : Nat → Int) : Nat → Int
 | 0 => 0
 | n + 1 => sumTo f n + f (n + 1)
def cntH (h : Lck) : Int := sumTo (fun n => h 0 n + h 1 n) 24
theorem sumTo_in {f : Nat → Int} {M : Int} (h : ∀ n, 0 ≤ f n ∧ f n ≤ M) : ∀ n, 0 ≤ sumTo f n ∧ sumTo f n ≤ M * n
 | 0 => by simp [sumTo]
 | n + 1 => by
  have a := sumTo_in h n
  have b := h (n + 1)
  have e : M * ((n + 1 : Nat) : Int) = M * n + M := by push_cast; rw [Int.mul_add]; omega
  rw [e]
  show 0 ≤ sumTo f n + f (n + 1) ∧ sumTo f n + f (n + 1) ≤ _
  omega
theorem sumTo_congr {f g : Nat → Int} : ∀ {n : Nat}, (∀ i, 1 ≤ i → i ≤ n → f i = g i) → sumTo f n = sumTo g n
 | 0, _ => rfl
 | n + 1, h => by
  show sumTo f n + f (n + 1) = sumTo g n + g (n + 1)
  rw [sumTo_congr (fun i h1 h2 => h i h1 (by omega)), h (n + 1) (by omega) (by omega)]
theorem sumTo_add (f g : Nat → Int) : ∀ n, sumTo (fun i => f i + g i) n = sumTo f n + sumTo g n
 | 0 => rfl
 | n + 1 => by
  show sumTo (fun i => f i + g i) n + (f (n + 1) + g (n + 1)) = (sumTo f n + f (n + 1)) + (sumTo g n + g (n + 1))
  rw [sumTo_add f g n]; omega
theorem cnt_tie (h : Lck) : cntH (tieH h).op = cntH h := sumTo_congr fun i h1 h2 => by rw [op_tie h (by omega) h1 h2, op_tie h (by omega) h1 h2]
theorem cnt_in {h : Lck} {M : Int} (k : h.In M) : 0 ≤ cntH h ∧ cntH h ≤ (M + M) * 24 := sumTo_in (fun n => by have := k 0 n; have := k 1 n; omega) 24
def big (h : Lck) : Bool := (List.range 24).any fun i => decide (1000000 < h 0 (i + 1)) || decide (1000000 < h 1 (i + 1))
theorem big_no {h : Lck} (k : big h = false) : ∀ w, w < 2 → ∀ n, 1 ≤ n → n ≤ 24 → h w n ≤ 1000000 := by
 intro w hw n h1 h2
 simp only [big, List.any_eq_false, List.mem_range] at k
 have := k (n - 1) (by omega)
 rw [show n - 1 + 1 = n by omega] at this
 simp at this
 rcases (show w = 0 ∨ w = 1 by omega) with rfl | rfl
 ·exact this.1
 ·exact this.2
def fin (h : Lck) : Int × Hr := if big h then (4, noH) else (0, tieH h)
def mixH (a b : Hr) : Int × Hr := fin fun k n => a.op k n + b.op k n
def turnL (h : Lck) : Lck := fun k n => if k = 0 then h 0 n + h 1 n else 0
def turnH (a : Hr) : Int × Hr := fin (turnL a.op)
def tk (h : Lck) (n : Int) (m : Nat) (k : Nat) : Int := if k = 0 then min n (h 0 m) else n - min n (h 0 m)
def takeL (h : Lck) (m : Nat) (r : Nat → Int) : Lck := fun k n => if n = m then h k n - r k else h k n
def giveL (h : Lck) (m : Nat) (r : Nat → Int) : Lck := fun k n => if n = m then h k n + r k else h k n
def snapL (h : Lck) (len at' : Nat) (n : Int) : Lck := giveL (giveL (takeL h len (tk h n len)) at' (tk h n len)) (len - at') (tk h n len)
def snapH (a : Hr) (len at' n : Int) : Int × Hr :=
 if len < 2 ∨ 24 < len ∨ at' < 1 ∨ len ≤ at' ∨ n < 0 then (1, noH)
 else if a.op 0 len.toNat + a.op 1 len.toNat < n then (6, noH)
 else fin (snapL a.op len.toNat at'.toNat n)
def keptL (h : Lck) (least : Nat) : Lck := fun k n => if n < least then 0 else h k n
def shortL (h : Lck) (least : Nat) : Lck := fun k n => if n < least then h k n else 0
def hackH (a : Hr) (least : Int) : Int × Hr × Hr :=
 if least < 1 ∨ 25 < least then (1, noH, noH) else (0, tieH (keptL a.op least.toNat), tieH (shortL a.op least.toNat))
def lft (h : Lck) (n : Int) : Nat → Int
 | 0 => n
 | d + 1 => lft h n d - min (lft h n d) (h 0 (24 - d) + h 1 (24 - d))
def dr (h : Lck) (n : Int) (m k : Nat) : Int := tk h (min (lft h n (24 - m)) (h 0 m + h 1 m)) m k
def drawL (h : Lck) (n : Int) : Lck := fun k m => if m = 0 ∨ 24 < m then 0 else dr h n m k
def restL (h : Lck) (n : Int) : Lck := fun k m => if m = 0 ∨ 24 < m then h k m else h k m - dr h n m k
def drawH (a : Hr) (n : Int) : Int × Hr × Hr :=
 if n < 0 then (1, noH, noH) else if cntH a.op < n then (6, noH, noH) else (0, tieH (drawL a.op n), tieH (restL a.op n))
def cin : Nat → Nat → Lck → Int → Lck × Int
 | 0, _, h, need => (h, need)
 | c + 1, j, h, need => cin c (j + 1) (takeL h j (tk h (min need (h 0 j + h 1 j)) j)) (need - min need (h 0 j + h 1 j))
def cout (y : Lck) : Nat → Lck → Option Lck
 | 0, h => some h
 | i + 1, h => if 0 < (cin (24 - i) (i + 1) h (y 0 (i + 1) + y 1 (i + 1))).2 then none else cout y i (cin (24 - i) (i + 1) h (y 0 (i + 1) + y 1 (i + 1))).1
def cutH (a y : Hr) : Int × Hr := match cout y.op 24 a.op with
 | none => (6, noH)
 | some h => (0, tieH h)
end Go.Proofs.YtihhclhpjgeniaaGreatDoor
namespace Go.Proofs.YtihhclhpjgeniaaGreatDoor
open Go.RowKit Go.Sort
structure BV where
 h : Hr
 A : Option Addr
 B : Option Addr
 n : Nat
 c : Nat
 m : Nat
 d : Nat
def BV.val (v : BV) : Value := .agg #[.slice v.A v.n v.c, .slice v.B v.m v.d]
structure BV.In (v : BV) (w : World) : Prop where
 r : Reads w w.heap.size 1 v.A v.n (ints v.h.R)
 s : Reads w w.heap.size 1 v.B v.m (ints v.h.W)
 nc : v.n ≤ v.c
 md : v.m ≤ v.d
 ok : v.h.Ok
theorem BV.In.below {v : BV} {w w' : World} (h : v.In w) (hb : Below w.heap.size w w') : v.In w' := ⟨h.r.on hb, h.s.on hb, h.nc, h.md, h.ok⟩
theorem BV.In.nr {v : BV} {w : World} (h : v.In w) : v.n = v.h.R.length := by have := h.r.1; rw [ints_length] at this; omega
theorem BV.In.mw {v : BV} {w : World} (h : v.In w) : v.m = v.h.W.length := by have := h.s.1; rw [ints_length] at this; omega
def arrI (f : Nat → Int) : Array Value := ((List.range 50).map fun j => Value.int .i64 (f j)).toArray
theorem arrI_size (f : Nat → Int) : (arrI f).size = 50 := by simp [arrI]
theorem arrI_get (f : Nat → Int) {j : Nat} (h : j < 50) : (arrI f)[j]? = some (.int .i64 (f j)) := by simp [arrI, h]
theorem arrI_one (f : Nat → Int) : (arrI f).all (·.oneCell') = true := by
 rw [Array.all_eq_true_iff_forall_mem]
 intro v hv
 simp only [arrI, List.mem_toArray, List.mem_map] at hv
 obtain ⟨i, _, rfl⟩ := hv
 rfl
def upd (f : Nat → Int) (i : Nat) (x : Int) : Nat → Int := fun j => if j = i then x else f j
theorem arrI_set (f : Nat → Int) (i : Nat) (x : Int) : (arrI f).setIfInBounds i (.int .i64 x) = arrI (upd f i x) := by
 apply Array.ext_getElem?
 intro j
 rw [Array.getElem?_setIfInBounds, arrI_size]
 by_cases hj : j < 50
 ·by_cases e : i = j
  ·subst e
   rw [if_pos rfl, if_pos hj, arrI_get _ hj]
   simp [upd]
  ·rw [if_neg e, arrI_get _ hj, arrI_get _ hj]
   simp [upd, show j ≠ i from fun h => e h.symm]
 ·have hn : ∀ g, (arrI g)[j]? = none := fun g => Array.getElem?_eq_none (by rw [arrI_size]; omega)
  rw [hn, hn]
  split
  ·rename_i e
   rw [if_neg (by rw [e]; exact hj)]
  ·rfl
theorem At.set {w : World} {q : Nat} {cs : Array Value} {t : TypeId} (h : At w q cs t) (i : Nat) (u : Value) : At (w.setCell ⟨q, i, none⟩ u) q (cs.setIfInBounds i u) t := by
 have hq := (Array.getElem?_eq_some_iff.1 h).1
 unfold At World.setCell
 simp only [Array.getElem?_modify]
 simp [h]
theorem At.far {w : World} {q : Nat} {cs : Array Value} {t : TypeId} (h : At w q cs t) {p : Addr} (hp : q ≠ p.block) (u : Value) : At (w.setCell p u) q cs t := by
 unfold At World.setCell
 simp only [Array.getElem?_modify]
 rw [if_neg (fun e => hp e.symm)]
 exact h
theorem At.fz {w : World} {q : Nat} {cs : Array Value} {t : TypeId} (h : At w q cs t) (i : Nat) : w.frozen? ⟨q, i, none⟩ = false := by
 simp [World.frozen?, show w.heap[q]? = _ from h]
theorem At.cell {w : World} {q : Nat} {cs : Array Value} {t : TypeId} (h : At w q cs t) (i : Nat) : w.cell? ⟨q, i, none⟩ = cs[i]? := cell_of_row _ _ i cs t (0, 0) h
theorem At.new (w : World) (cs : Array Value) (t : TypeId) : At (w.alloc (.cells cs t)) w.heap.size cs t := heap_alloc_new w _
theorem At.lt {w : World} {q : Nat} {cs : Array Value} {t : TypeId} (h : At w q cs t) : q < w.heap.size := (Array.getElem?_eq_some_iff.1 h).1
def flatP (h : Lck) : Nat → Int := fun j => h (j % 2) (j / 2)
def setH (h : Lck) (k n : Nat) (x : Int) : Lck := fun a b => if a = k ∧ b = n then x else h a b
theorem flatP_set (h : Lck) {k : Nat} (n : Nat) (x : Int) (hk : k < 2) : upd (flatP h) (n * 2 + k) x = flatP (setH h k n x) := by
 funext j
 unfold upd flatP setH
 by_cases e : j = n * 2 + k
 ·subst e
  rw [if_pos rfl, if_pos ⟨by omega, by omega⟩]
 ·rw [if_neg e, if_neg (fun ⟨a, b⟩ => e (by omega))]
theorem flatP_at (h : Lck) {k : Nat} (n : Nat) (hk : k < 2) : flatP h (n * 2 + k) = h k n := by
 unfold flatP
 rw [show (n * 2 + k) % 2 = k by omega, show (n * 2 + k) / 2 = n by omega]
abbrev zeroH : Lck := fun _ _ => 0
theorem lit50 : (#[.int .i64 0, .int .i64 0, .int .i64 0, .int .i64 0, .int .i64 0, .int .i64 0, .int .i64 0, .int .i64 0, .int .i64 0, .int .i64 0, .int .i64 0, .int .i64 0, .int .i64 0, .int .i64 0, .int .i64 0, .int .i64 0, .int .i64 0, .int .i64 0, .int .i64 0, .int .i64 0, .int .i64 0, .int .i64 0, .int .i64 0, .int .i64 0, .int .i64 0, .int .i64 0, .int .i64 0, .int .i64 0, .int .i64 0, .int .i64 0, .int .i64 0, .int .i64 0, .int .i64 0, .int .i64 0, .int .i64 0, .int .i64 0, .int .i64 0, .int .i64 0, .int .i64 0, .int .i64 0, .int .i64 0, .int .i64 0, .int .i64 0, .int .i64 0, .int .i64 0, .int .i64 0, .int .i64 0, .int .i64 0, .int .i64 0, .int .i64 0] : Array Value) = arrI (flatP zeroH) := by kernel_rfl
theorem At.row {w : World} {q : Nat} {cs : Array Value} {t : TypeId} (h : At w q cs t) (ds : Array Value) : At (w.setRow q ds) q ds t := setRow_heap w q cs ds t _ h
theorem row_other {w : World} {q r : Nat} (hne : q ≠ r) (ds : Array Value) : (w.setRow r ds).heap[q]? = w.heap[q]? := by
 unfold World.setRow
 simp only [Array.getElem?_modify]
 rw [if_neg (fun e => hne e.symm)]
theorem At.rowFar {w : World} {q r : Nat} {cs : Array Value} {t : TypeId} (h : At w q cs t) (hne : q ≠ r) (ds : Array Value) : At (w.setRow r ds) q cs t := by
 unfold At
 rw [row_other hne]
 exact h
@[simp] theorem size_row (w : World) (q : Nat) (ds : Array Value) : (w.setRow q ds).heap.size = w.heap.size := by simp [World.setRow]
theorem below_row {B : Nat} {w w' : World} (h : Below B w w') {q : Nat} (hq : B ≤ q) (ds : Array Value) : Below B w (w'.setRow q ds) :=
 ⟨h.os, h.tape, h.output, by rw [size_row]; exact h.size, fun b hb => by rw [row_other (by omega)]; exact h.block b hb⟩
theorem size217 (f : Nat → Int) : (Tryz.prog.info? 217).map (·.size) = some (arrI f).size := by rw [arrI_size]; kernel_rfl
theorem wpList_load50 {ops : Array Oper} {rest : List Oper} {o : Oper} {a : Act} {w : World} {Q : Exit → Act → World → Prop} (hgd : o.guard = none) (x : Operand) (ho : o.op = .load 217 x)
  (g : Nat) (hx : a.eval x = .pointer (some ⟨g, 0, none⟩)) (f : Nat → Int) (hg : At w g (arrI f) 217)
  (h : wpList Tryz.prog ops Q rest (a.put o.dst (.agg (arrI f))) w) : wpList Tryz.prog ops Q (o :: rest) a w :=
 wpList_load_row hgd 217 x ho g hx 217 (arrI f) (0, 0) _ hg Tryz.underlying217 rfl (size217 f) h
theorem wpList_store50 {ops : Array Oper} {rest : List Oper} {o : Oper} {a : Act} {w : World} {Q : Exit → Act → World → Prop} (hgd : o.guard = none) (x y : Operand) (ho : o.op = .store 217 x y)
  (g : Nat) (f e : Nat → Int) (hx : a.eval x = .pointer (some ⟨g, 0, none⟩)) (hy : a.eval y = .agg (arrI f)) (hg : At w g (arrI e) 217)
  (h : wpList Tryz.prog ops Q rest (a.put o.dst undef) (w.setRow g (arrI f))) : wpList Tryz.prog ops Q (o :: rest) a w :=
 wpList_plain hgd fun _ hK => wp_store_row 217 x y ho g (arrI f) hx hy 217 (arrI e) hg (size217 f) (by rw [arrI_size, arrI_size]) (arrI_one f) (hK _ _ h)
theorem ret50 {fn : Func} {tmps : Array Value} {w : World} (p : Tmp) (g : Nat) (f : Nat → Int) (h : fn.results = #[.cell p 217]) (hp : tmps.getD p undef = .pointer (some ⟨g, 0, none⟩)) (hg : At w g (arrI f) 217) :
  (results fn tmps).run Tryz.prog w = .ok (.agg (arrI f)) w :=
 results_cell_row h tmps w g 217 (arrI f) (0, 0) _ hp hg Tryz.underlying217 rfl (size217 f)
theorem flatP_set0 (h : Lck) (n : Nat) (x : Int) : upd (flatP h) (n * 2) x = flatP (setH h 0 n x) := flatP_set h n x (k := 0) (by omega)
theorem flatP_set1 (h : Lck) (n : Nat) (x : Int) : upd (flatP h) (n * 2 + 1) x = flatP (setH h 1 n x) := flatP_set h n x (k := 1) (by omega)
abbrev LkP (w : World) (q : Nat) (h : Lck) : Prop := At w q (arrI (flatP h)) 217
theorem LkP.get0 {w : World} {q : Nat} {h : Lck} (k : LkP w q h) {n : Nat} (hn : n < 25) : w.cell? ⟨q, n * 2, none⟩ = some (.int .i64 (h 0 n)) := by
 rw [At.cell k, arrI_get _ (by omega), ← flatP_at h n (k := 0) (by omega)]; rfl
theorem LkP.get1 {w : World} {q : Nat} {h : Lck} (k : LkP w q h) {n : Nat} (hn : n < 25) : w.cell? ⟨q, n * 2 + 1, none⟩ = some (.int .i64 (h 1 n)) := by
 rw [At.cell k, arrI_get _ (by omega), ← flatP_at h n (k := 1) (by omega)]
theorem LkP.put0 {w : World} {q : Nat} {h : Lck} (k : LkP w q h) (n : Nat) (x : Int) : LkP (w.setCell ⟨q, n * 2, none⟩ (.int .i64 x)) q (setH h 0 n x) := by
 have := At.set k (n * 2) (.int .i64 x)
 rwa [arrI_set, flatP_set0] at this
theorem LkP.put1 {w : World} {q : Nat} {h : Lck} (k : LkP w q h) (n : Nat) (x : Int) : LkP (w.setCell ⟨q, n * 2 + 1, none⟩ (.int .i64 x)) q (setH h 1 n x) := by
 have := At.set k (n * 2 + 1) (.int .i64 x)
 rwa [arrI_set, flatP_set1] at this
theorem LkP.rg0 {w : World} {q : Nat} {h : Lck} (k : LkP w q h) {n : Nat} (hn : n < 25) : ∀ d os, (grow (redrawn w d) os).cell? ⟨q, n * 2, none⟩ = some (.int .i64 (h 0 n)) := rg_cell (k.get0 hn)
theorem LkP.rg1 {w : World} {q : Nat} {h : Lck} (k : LkP w q h) {n : Nat} (hn : n < 25) : ∀ d os, (grow (redrawn w d) os).cell? ⟨q, n * 2 + 1, none⟩ = some (.int .i64 (h 1 n)) := rg_cell (k.get1 hn)
theorem below_put {B : Nat} {w w' : World} (h : Below B w w') {p : Addr} (hp : B ≤ p.block) (u : Value) : Below B w (w'.setCell p u) := h.setCell (p := p) hp u
end Go.Proofs.YtihhclhpjgeniaaGreatDoor
namespace Go.Proofs.YtihhclhpjgeniaaGreatDoor
open Go.RowKit Go.Sort
structure Kp (S : Nat → Prop) (w w' : World) : Prop where
 os : w'.os = w.os
 tape : w'.tape = w.tape
 output : w'.output = w.output
 size : w.heap.size ≤ w'.heap.size
 block : ∀ b, b < w.heap.size → ¬ S b → w'.heap[b]? = w.heap[b]?
theorem Kp.refl (S : Nat → Prop) (w : World) : Kp S w w := ⟨rfl, rfl, rfl, Nat.le_refl _, fun _ _ _ => rfl⟩
theorem Kp.of {S : Nat → Prop} {w w' : World} (h : Below w.heap.size w w') : Kp S w w' := ⟨h.os, h.tape, h.output, h.size, fun b hb _ => h.block b hb⟩
theorem Kp.trans {S S' : Nat → Prop} {a b c : World} (h : Kp S a b) (k : Kp S' b c) (hS : ∀ x, x < a.heap.size → S' x → S x) : Kp S a c :=
 ⟨k.os.trans h.os, k.tape.trans h.tape, k.output.trans h.output, Nat.le_trans h.size k.size, fun x hx hn => (k.block x (Nat.lt_of_lt_of_le hx h.size) (fun e => hn (hS x hx e))).trans (h.block x hx hn)⟩
theorem Kp.step {S : Nat → Prop} {a b c : World} (h : Kp S a b) (k : Kp S b c) : Kp S a c := h.trans k fun _ _ e => e
theorem Kp.grow {S : Nat → Prop} {a b c : World} (h : Kp S a b) (k : Below b.heap.size b c) : Kp S a c := h.trans (Kp.of (S := S) k) fun _ _ e => e
theorem Kp.mono {S S' : Nat → Prop} {a b : World} (h : Kp S a b) (hS : ∀ x, S x → S' x) : Kp S' a b := ⟨h.os, h.tape, h.output, h.size, fun x hx hn => h.block x hx (fun e => hn (hS x e))⟩
theorem setCell_other {w : World} {p : Addr} {u : Value} {x : Nat} (hne : x ≠ p.block) : (w.setCell p u).heap[x]? = w.heap[x]? := by
 unfold World.setCell
 simp only [Array.getElem?_modify]
 rw [if_neg (fun e => hne e.symm)]
theorem Kp.set {S : Nat → Prop} {a b : World} (h : Kp S a b) {p : Addr} (hp : p.block < a.heap.size → S p.block) (u : Value) : Kp S a (b.setCell p u) :=
 ⟨h.os, h.tape, h.output, by rw [size_set]; exact h.size, fun x hx hn => by rw [setCell_other (fun e => by subst e; exact hn (hp hx))]; exact h.block x hx hn⟩
theorem Kp.row {S : Nat → Prop} {a b : World} (h : Kp S a b) {q : Nat} (hq : q < a.heap.size → S q) (ds : Array Value) : Kp S a (b.setRow q ds) :=
 ⟨h.os, h.tape, h.output, by rw [size_row]; exact h.size, fun x hx hn => by rw [row_other (fun e => by subst e; exact hn (hq hx))]; exact h.block x hx hn⟩
theorem Kp.grown {S : Nat → Prop} {a b c : World} (h : Kp S a b) {row : Option Nat} (hg : b.grownBy c row) (hr : ∀ k, row = some k → k < a.heap.size → S k) : Kp S a c :=
 ⟨hg.os.trans h.os, hg.tape.trans h.tape, hg.output.trans h.output, Nat.le_trans h.size hg.size, fun x hx hn => (hg.block x (Nat.lt_of_lt_of_le hx h.size) (fun e => hn (hr x e.symm hx))).trans (h.block x hx hn)⟩
theorem below_kp {S : Nat → Prop} {B : Nat} {w0 w w' : World} (h : Below B w0 w) (k : Kp S w w') (hB : B ≤ w.heap.size) (hS : ∀ x, x < B → ¬ S x) : Below B w0 w' :=
 ⟨k.os.trans h.os, k.tape.trans h.tape, k.output.trans h.output, Nat.le_trans h.size k.size, fun x hx => (k.block x (Nat.lt_of_lt_of_le hx hB) (hS x hx)).trans (h.block x hx)⟩
theorem At.kp {S : Nat → Prop} {w w' : World} {q : Nat} {cs : Array Value} {t : TypeId} (h : At w q cs t) (k : Kp S w w') (hq : ¬ S q) : At w' q cs t := (k.block q h.lt hq).trans h
theorem LkP.below {w w' : World} {q : Nat} {h : Lck} (k : LkP w q h) (hb : Below w.heap.size w w') : LkP w' q h := At.below k hb
theorem LkP.kp {S : Nat → Prop} {w w' : World} {q : Nat} {h : Lck} (k : LkP w q h) (hk : Kp S w w') (hq : ¬ S q) : LkP w' q h := At.kp k hk hq
theorem LkP.far {w : World} {q : Nat} {h : Lck} (k : LkP w q h) {p : Addr} (hp : q ≠ p.block) (u : Value) : LkP (w.setCell p u) q h := At.far k hp u
theorem Kp.cell {S : Nat → Prop} {w w' : World} (k : Kp S w w') {p : Addr} (hp : p.block < w.heap.size) (hn : ¬ S p.block) : w'.cell? p = w.cell? p := by
 unfold World.cell?
 rw [k.block _ hp hn]
def blk (A : Option Addr) (n : Nat) (k : Nat) : Prop := n ≠ 0 ∧ ∃ a, A = some a ∧ a.block = k
theorem Reads.blk_lt {w : World} {sz n : Nat} {A : Option Addr} {xs : List Value} (h : Reads w w.heap.size sz A n xs) {k : Nat} (hk : blk A n k) : k < w.heap.size := by
 obtain ⟨hn, a, rfl, rfl⟩ := hk
 obtain ⟨b, e, hb, _⟩ := h.2 (by omega)
 cases e
 exact hb
def BV.New (v : BV) (N : Nat) : Prop := ∀ k, blk v.A v.n k ∨ blk v.B v.m k → N ≤ k
theorem BV.New.mono {v : BV} {N M : Nat} (h : v.New N) (hM : M ≤ N) : v.New M := fun k hk => Nat.le_trans hM (h k hk)
abbrev BV.arr (v : BV) : Array Value := #[.slice v.A v.n v.c, .slice v.B v.m v.d]
abbrev noArr : Array Value := #[.slice none 0 0, .slice none 0 0]
def noB : BV := ⟨noH, none, none, 0, 0, 0, 0⟩
theorem noB_in (w : World) : noB.In w := ⟨Reads.nil, Reads.nil, Nat.le_refl _, Nat.le_refl _, noH_ok⟩
theorem noB_new (N : Nat) : noB.New N := fun k hk => by rcases hk with ⟨h, _⟩ | ⟨h, _⟩ <;> exact absurd rfl h
def RetB (h : Hr) (e : Int) (w : World) (r : Ending) (w' : World) : Prop := ∃ v : BV, v.h = h ∧ r = .returned (.tuple #[.agg v.arr, .int .i64 e]) ∧ v.In w' ∧ v.New w.heap.size ∧ Below w.heap.size w w'
theorem Reads.kb {S : Nat → Prop} {w w' : World} {sz n : Nat} {A : Option Addr} {xs : List Value} (h : Reads w w.heap.size sz A n xs) (k : Kp S w w') (hn : ∀ b, blk A n b → ¬ S b) : Reads w' w'.heap.size sz A n xs := by
 refine ⟨h.1, fun h0 => ?_⟩
 obtain ⟨a, e, hb, hc⟩ := h.2 h0
 have hne : n ≠ 0 := by omega
 refine ⟨a, e, Nat.lt_of_lt_of_le hb k.size, fun j u hu => ?_⟩
 rw [k.cell (p := a.add j) (by rw [blockAdd]; exact hb) (by rw [blockAdd]; exact hn _ ⟨hne, a, e, rfl⟩)]
 exact hc j u hu
theorem BV.In.kb {S : Nat → Prop} {v : BV} {w w' : World} (h : v.In w) (k : Kp S w w') (hA : ∀ b, blk v.A v.n b → ¬ S b) (hB : ∀ b, blk v.B v.m b → ¬ S b) : v.In w' :=
 ⟨h.r.kb k hA, h.s.kb k hB, h.nc, h.md, h.ok⟩
theorem BV.In.put {v : BV} {w : World} (h : v.In w) {N : Nat} (hn : v.New N) {g : Nat} (hg : g < N) (i : Nat) (u : Value) : v.In (w.setCell ⟨g, i, none⟩ u) :=
 h.kb (S := fun x => x = g) ((Kp.refl (fun x => x = g) w).set (p := ⟨g, i, none⟩) (fun _ => rfl) u) (fun b hb e => by have := hn b (.inl hb); omega) (fun b hb e => by have := hn b (.inr hb); omega)
theorem retB_end {h : Hr} {e : Int} {w w5 : World} {x : BV} {g N : Nat} (hx : x.h = h) (hi : x.In w5) (hn : x.New N) (hg : g < N) (hw : w.heap.size ≤ g) (hb : Below w.heap.size w w5) (a b : Value) :
  RetB h e w (.returned (.tuple #[.agg x.arr, .int .i64 e])) ((w5.setCell ⟨g, 0, none⟩ a).setCell ⟨g, 1, none⟩ b) :=
 ⟨x, hx, rfl, (hi.put hn hg 0 a).put hn hg 1 b, hn.mono (by omega : w.heap.size ≤ N), below_put (below_put hb (p := ⟨g, 0, none⟩) hw a) (p := ⟨g, 1, none⟩) hw b⟩
end Go.Proofs.YtihhclhpjgeniaaGreatDoor
