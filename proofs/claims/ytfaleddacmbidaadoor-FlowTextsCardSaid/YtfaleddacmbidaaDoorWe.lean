/- Walks: rows of any element; words of a text, both sides; numbers read, the reference's. -/
import Derived.Test.YtfaleddacmbidaaDoorWd
import Derived.Lib.SplitLaws
namespace Go.Proofs.YtfaleddacmbidaaDoor
open Go.RowKit Go.Sort

/-- Since w0 the slice value v has come to hold n elements of type e, in memory that was made since. -/
structure OwnX (e : TypeId) (sz : Nat) (w0 w : World) (v : Value) (n : Nat) (xs : List Value) : Prop where
  row : w.ownsRow w0.heap.size e sz v n xs
  bel : Below w0.heap.size w0 w
section
variable {e : TypeId} {sz n : Nat} {w0 w w' : World} {v : Value} {xs : List Value}
theorem OwnX.nil (e : TypeId) (sz : Nat) (w : World) : OwnX e sz w w (.slice none 0 0) 0 [] := ⟨World.ownsRow_nil _ _ _ _, Below.refl _ _⟩
theorem OwnX.on (h : OwnX e sz w0 w v n xs) (hb : Below w.heap.size w w') : OwnX e sz w0 w' v n xs := by
  refine ⟨?_, below_trans' h.bel hb⟩
  refine h.row.kept (row := none) ⟨hb.os, hb.tape, hb.output, hb.size, fun k hk _ => hb.block k hk⟩ ?_
  cases hv : v.ownBlock with
  | none => exact .inl rfl
  | some k => exact .inr (by simp)
theorem OwnX.form (h : OwnX e sz w0 w v n xs) : ∃ A c, v = .slice A n c ∧ Reads w w.heap.size sz A n xs := by
  rcases h.row.2 with ⟨rfl, rfl⟩ | ⟨g, cap, cur, rfl, _⟩
  · have h1 := h.row.1
    obtain rfl : xs = [] := List.eq_nil_of_length_eq_zero (by rw [h1]; simp)
    exact ⟨none, 0, rfl, Reads.nil⟩
  · exact ⟨some ⟨g, 0, none⟩, cap, rfl, Reads.of_own h.row⟩
end
theorem wpList_pushX {ops : Array Oper} {rest : List Oper} {o : Oper} {a : Act} {Q : Exit → Act → World → Prop} (hgd : o.guard = none) (s x : Operand) (t e : TypeId)
    (ho : o.op = .call { callee := .builtin .append, args := #[s, x], argTypes := #[t, t] }) {z : Value} {sz bytes : Nat} (ht : Tryd.prog.underlying t = some (.slice e))
    (hinfo : (Tryd.prog.info? e).map (fun i => (i.zero, i.size, i.bytes)) = some (some z, sz, bytes)) (hzs : z.cells.size = sz) (hsz : 0 < sz) (hby : bytes ≤ 1000)
    (w0 w : World) (out : Value) (n : Nat) (xs news : List Value) (b : Nat) (hs : a.eval s = out) (hown : OwnX e sz w0 w out n xs) (hx : a.eval x = .slice (some ⟨b, 0, none⟩) 1 1)
    (hbox : Box w b news.toArray) (hl : news.length = sz) (h1 : ∀ u ∈ news, u.oneCell' = true) (hlen : n < 1000000000)
    (h : ∀ v' w', OwnX e sz w0 w' v' (n + 1) (xs ++ news) → wpList Tryd.prog ops Q rest (a.put o.dst v') w') : wpList Tryd.prog ops Q (o :: rest) a w := by
  obtain ⟨i0, hi, hz0, hz1, hz2⟩ := info_parts hinfo
  refine wpList_append_own w hgd s x t ho w0.heap.size e i0 _ sz bytes ht hi hz0 hz1 hz2 hzs hsz out n xs hs hown.row
    ⟨b, 0, none⟩ 1 1 news hx (by rw [hl]; omega) ?_ h1 ?_ ?_ hown.bel.size ?_
  · intro j u hj
    have e1 : (⟨b, 0, none⟩ : Addr).add j = ⟨b, j, none⟩ := by
      unfold Addr.add
      split
      · rename_i h0; rw [h0]
      · simp
    rw [e1, hbox.at]
    simpa using hj
  · unfold maxLen; omega
  · have := Nat.mul_le_mul (show n + 1 ≤ 1000000000 by omega) hby
    omega
  · intro v' w' h1 h2 _
    exact h v' w' ⟨h1, hown.bel.grown h2 hown.bel.size fun k hk => (hown.row.lt k hk).1⟩


/-! Pieces between a byte. -/
theorem occ_byte {b : UInt8} {s : List UInt8} {i : Nat} : Lib.occAt s [b] i = true ↔ s[i]? = some b := by
  unfold Lib.occAt
  rw [List.isPrefixOf_iff_prefix]
  constructor
  · rintro ⟨q, hq⟩
    rw [← Nat.add_zero i, ← List.getElem?_drop, ← hq]
    rfl
  · intro h
    obtain ⟨hi, h⟩ := List.getElem?_eq_some_iff.1 h
    exact ⟨s.drop (i + 1), by rw [List.drop_eq_getElem_cons hi, h]; rfl⟩
theorem index_byte {b : UInt8} {u r : List UInt8} (h : b ∉ u) : Lib.index (u ++ b :: r) [b] = u.length := Lib.index_hit (fun j hj => by
    cases hc : Lib.occAt (u ++ b :: r) [b] j with
    | false => rfl
    | true =>
      have h1 := occ_byte.1 hc
      rw [List.getElem?_append_left hj] at h1
      exact absurd (List.mem_of_getElem? h1) h) (by simp) (occ_byte.2 (by simp))
theorem index_none {b : UInt8} {t : List UInt8} (h : b ∉ t) : Lib.index t [b] = -1 := Lib.index_past (i := t.length) (by simp) (fun j _ => by
    cases hc : Lib.occAt t [b] j with
    | false => rfl
    | true => exact absurd (List.mem_of_getElem? (occ_byte.1 hc)) h) (by simp)

theorem splitK_hit {b : UInt8} {u r : List UInt8} (k : Nat) (h : b ∉ u) : Lib.splitK [b] 0 (k + 1) (u ++ b :: r) = u :: Lib.splitK [b] 0 k r := by
  have hi := index_byte (r := r) h
  have hm : ¬ (Lib.index (u ++ b :: r) [b] == -1) = true := fun e => by have := beq_iff_eq.1 e; omega
  rw [Lib.splitK, if_neg hm, hi]
  simp
theorem splitK_pcs (b : UInt8) : ∀ (k : Nat) (l : List UInt8), l.count b = k → Pcs b (Lib.splitK [b] 0 k l) l
  | 0, l, h => ⟨by simp [Lib.splitK], fun w hw => by
      rw [show Lib.splitK [b] 0 0 l = [l] from rfl, List.mem_singleton] at hw
      rw [hw]; exact List.count_eq_zero.1 h, rfl⟩
  | k + 1, l, h => by
    have hm : b ∈ l := List.count_pos_iff.1 (by omega)
    obtain ⟨u, r, rfl, hu⟩ := List.eq_append_cons_of_mem hm
    rw [List.count_append, List.count_eq_zero.2 hu, List.count_cons_self] at h
    have ih := splitK_pcs b k r (by omega)
    rw [splitK_hit k hu]
    refine ⟨by simp, fun w hw => ?_, ?_⟩
    · rcases List.mem_cons.1 hw with rfl | hw
      · exact hu
      · exact ih.no w hw
    · rw [join_cons b u ih.ne, ih.eq]
theorem join_end (b : UInt8) (l : List (List UInt8)) (x : List UInt8) : join b (l ++ [x]) = (l.flatMap fun w => w ++ [b]) ++ x := by
  induction l with
  | nil => rfl
  | cons w l ih => rw [List.cons_append, join_cons b w (by simp), ih]; simp
/-- Strings in memory. -/
def strs (l : List ByteArray) : List Value := l.map Value.string
def lists (l : List ByteArray) : List (List UInt8) := l.map (·.data.toList)
theorem strs_one (l : List ByteArray) : ∀ u ∈ strs l, u.oneCell' = true := by
  intro u hu
  obtain ⟨x, _, rfl⟩ := List.mem_map.1 hu
  rfl
theorem info9 : (Tryd.prog.info? 9).map (fun i => (i.zero, i.size, i.bytes)) = some (some (.string ByteArray.empty), 1, 16) := by kernel_rfl
/-- The words of a text, in memory. -/
def RetWords (b : UInt8) (s : ByteArray) (w : World) (r : Ending) (w' : World) : Prop :=
  ∃ l A c, r = .returned (.slice A l.length c) ∧ Pcs b (lists l) s.data.toList ∧ l.length ≤ c ∧ (∀ a, A = some a → w.heap.size ≤ a.block) ∧ Reads w' w'.heap.size 1 A l.length (strs l) ∧ Below w.heap.size w w'
/-- strings.Split at a byte. -/
theorem split_any (b : UInt8) (s : ByteArray) (m : Int) (w : World) (hs : s.size ≤ 1000000) (hm : w.cell? ⟨3, 0, none⟩ = some (.int .i64 m)) :
    Calls Tryd.prog 20 #[.string s, .string ⟨#[b]⟩] w (RetWords b s w) := by
  refine (Tryd.strings_Split s ⟨#[b]⟩ m w (by omega) hm (Nat.le_refl 1)).mono fun r w' ⟨h1, h2⟩ => ?_
  have hl := Lib.splitB_all ⟨#[b]⟩ (Nat.le_refl 1) 0 _ s rfl
  refine ⟨Lib.splitB ⟨#[b]⟩ 0 (Lib.countB s ⟨#[b]⟩) s, some ⟨w.heap.size, 0, none⟩, Lib.countB s ⟨#[b]⟩ + 1, by rw [h1, hl], ?_, by rw [hl]; exact Nat.le_refl _, fun a ha => by injection ha with ha; rw [← ha]; exact Nat.le_refl _, ?_, by rw [h2]; exact belowA _ _⟩
  · have := splitK_pcs b (Lib.countB s ⟨#[b]⟩) s.data.toList (Lib.count_one b s.data.toList).symm
    unfold lists
    rw [Lib.splitB_data]
    exact this
  · rw [h2]
    exact reads_new w (strs (Lib.splitB ⟨#[b]⟩ 0 (Lib.countB s ⟨#[b]⟩) s)) 9 1 _ (by simp [strs])
theorem drop_list (s : ByteArray) (k : Nat) : (s.extract k s.size).data.toList = s.data.toList.drop k := by
  rw [ByteArray.data_extract, Array.toList_extract]
  simp only [List.extract]
  exact List.take_of_length_le (by rw [List.length_drop]; simp)
theorem cut_list (s : ByteArray) (m k : Nat) : (s.extract m k).data.toList = (s.data.toList.drop m).take (k - m) := by
  rw [ByteArray.data_extract, Array.toList_extract, List.extract_eq_take_drop]
/-- What the loop of Words has made. -/
structure Wds (b : UInt8) (s : ByteArray) (l : List ByteArray) (m k : Nat) : Prop where
  le : m ≤ k
  up : k ≤ s.size
  len : l.length ≤ m
  no : ∀ w ∈ lists l, b ∉ w
  no2 : b ∉ (s.data.toList.drop m).take (k - m)
  eq : ((lists l).flatMap fun w => w ++ [b]) = s.data.toList.take m
theorem Wds.nil (b : UInt8) (s : ByteArray) : Wds b s [] 0 0 := ⟨Nat.le_refl _, Nat.zero_le _, Nat.le_refl _, fun w h => by simp [lists] at h, by simp, by simp [lists]⟩
theorem take_more (x : List UInt8) {m k : Nat} {c : UInt8} (hm : m ≤ k) (hk : x[k]? = some c) : (x.drop m).take (k + 1 - m) = (x.drop m).take (k - m) ++ [c] := by
  rw [show k + 1 - m = (k - m) + 1 by omega, List.take_add_one, List.getElem?_drop, show m + (k - m) = k by omega, hk]
  rfl
theorem Wds.skip {b c : UInt8} {s : ByteArray} {l : List ByteArray} {m k : Nat} (h : Wds b s l m k) (hk : k < s.size) (hc : s.data.toList[k]? = some c) (hne : c ≠ b) : Wds b s l m (k + 1) := by
  obtain ⟨h1, h2, h3, h4, h5, h6⟩ := h
  refine ⟨by omega, by omega, h3, h4, ?_, h6⟩
  rw [take_more _ h1 hc, List.mem_append, List.mem_singleton]
  rintro (h | h)
  · exact h5 h
  · exact hne h.symm
theorem Wds.word {b : UInt8} {s : ByteArray} {l : List ByteArray} {m k : Nat} (h : Wds b s l m k) (hk : k < s.size) (hc : s.data.toList[k]? = some b) : Wds b s (l ++ [s.extract m k]) (k + 1) (k + 1) := by
  obtain ⟨h1, h2, h3, h4, h5, h6⟩ := h
  refine ⟨Nat.le_refl _, by omega, by simp; omega, fun w hw => ?_, by simp, ?_⟩
  · simp only [lists, List.map_append, List.mem_append, List.map_cons, List.map_nil, List.mem_singleton] at hw
    rcases hw with hw | rfl
    · exact h4 w hw
    · rw [cut_list]; exact h5
  · simp only [lists, List.map_append, List.map_cons, List.map_nil, List.flatMap_append, List.flatMap_cons, List.flatMap_nil, List.append_nil]
    show ((lists l).flatMap fun w => w ++ [b]) ++ ((s.extract m k).data.toList ++ [b]) = _
    rw [h6, cut_list, ← take_more _ h1 hc, ← List.take_add]
    congr 1
    omega
theorem Wds.last {b : UInt8} {s : ByteArray} {l : List ByteArray} {m : Nat} (h : Wds b s l m s.size) : Pcs b (lists (l ++ [s.extract m s.size])) s.data.toList := by
  obtain ⟨h1, h2, h3, h4, h5, h6⟩ := h
  have e : lists (l ++ [s.extract m s.size]) = lists l ++ [s.data.toList.drop m] := by simp only [lists, List.map_append, List.map_cons, List.map_nil]; rw [drop_list]
  rw [e]
  refine ⟨by simp, fun w hw => ?_, by rw [join_end, h6, List.take_append_drop]⟩
  rcases List.mem_append.1 hw with hw | hw
  · exact h4 w hw
  · rw [List.mem_singleton.1 hw]
    rwa [List.take_of_length_le (by simp)] at h5
theorem byte_at {s : ByteArray} {k : Nat} (hk : k < s.size) : s.data.toList[k]? = some s[k] := by
  have e : s.data.toList[k]? = s.data[k]? := by simp
  rw [e, Array.getElem?_eq_getElem (by simpa using hk)]
  rfl
set_option maxRecDepth 100000 in
set_option maxHeartbeats 4000000 in
theorem words_any (b : UInt8) (s : ByteArray) (w : World) (hs : s.size ≤ 1000000) :
    Calls Tryd.prog 23 #[.string s, .int .u8 (b.toNat : Int)] w (RetWords b s w) := by
  go_enter Tryd.func23, Tryd.ntmps23
  go_wp2_with fail
  go_loopw [5, 6, 7] (fun out from_ i wr => ∃ (l : List ByteArray) (m k : Nat), from_ = .int .i64 m ∧ i = .int .i64 k ∧ Wds b s l m k ∧ OwnX 9 1 w wr out l.length (strs l)) (fun _ _ i _ => s.size - (intOf i).toNat)
  case atStart => exact ⟨[], 0, 0, rfl, rfl, Wds.nil b s, OwnX.nil _ _ _⟩
  case round =>
    obtain ⟨l, m, k, rfl, rfl, hw, hown⟩ := hrel
    have HWD := Lib.hid hw
    have HO := Lib.hid hown
    have m0 := hw.le
    have m1 := hw.up
    have m2 := hw.len
    clear hw
    by_cases hlt : k < s.size
    · by_cases hb : s[k] = b
      · have g : ((s[k].toNat : Int) == (b.toNat : Int)) = true := by rw [hb]; simp
        have HN := Lib.hid (HWD.out.word hlt (by rw [byte_at hlt, hb]))
        have HL : Hid (strs l ++ [.string (s.extract m k)] = strs (l ++ [s.extract m k])) := Lib.hid (by simp [strs])
        have HLN : Hid (l.length + 1 = (l ++ [s.extract m k]).length) := Lib.hid (by simp)
        clear hb
        go_wp2_with (at_builtin; refine wpList_pushX rfl _ _ 52 9 rfl Tryd.underlying52 info9 rfl (by omega) (by omega) w _ _ _ _ [.string (s.extract m k)] _ rfl (HO.out.on (belowA _ _)) rfl (Box.new _ _ _) rfl (by intro u hu; simp at hu; subst hu; rfl) (by omega) ?_; intro v' w' hown'; have hown5 := Lib.hid hown'; clear hown')
        go_roundw
        case rel => exact ⟨_, k + 1, k + 1, by go_num, by go_num, HN.out, by rw [← HL.out, ← HLN.out]; exact hown5.out⟩
        case measure => simp [intOf]; omega
      · have g : ((s[k].toNat : Int) == (b.toNat : Int)) = false := by
          rw [beq_eq_false_iff_ne]
          exact fun e => hb (UInt8.toNat_inj.1 (by omega))
        have HN := Lib.hid (HWD.out.skip hlt (byte_at hlt) hb)
        clear hb
        go_wp2_with fail
        go_roundw
        case rel => exact ⟨l, m, k + 1, rfl, by go_num, HN.out, HO.out⟩
        case measure => simp [intOf]; omega
    · have hk : k = s.size := by omega
      subst hk
      have HP := Lib.hid HWD.out.last
      have HL : Hid (strs l ++ [.string (s.extract m s.size)] = strs (l ++ [s.extract m s.size])) := Lib.hid (by simp [strs])
      have HLN : Hid (l.length + 1 = (l ++ [s.extract m s.size]).length) := Lib.hid (by simp)
      go_wp2_with (at_builtin; refine wpList_pushX rfl _ _ 52 9 rfl Tryd.underlying52 info9 rfl (by omega) (by omega) w _ _ _ _ [.string (s.extract m s.size)] _ rfl (HO.out.on (belowA _ _)) rfl (Box.new _ _ _) rfl (by intro u hu; simp at hu; subst hu; rfl) (by omega) ?_; intro v' w' hown'; have hown5 := Lib.hid hown'; clear hown')
      obtain ⟨A, c, hv, hr⟩ := hown5.out.form
      subst hv
      have HC := Lib.hid hown5.out.row
      have HBL := Lib.hid hown5.out.bel
      have HR := Lib.hid hr
      clear hr hown5
      go_wp2_with fail
      go_ret
      refine ⟨_, A, c, by rw [← HLN.out]; rfl, HP.out, ?_, fun a ha => (HC.out.lt a.block (by rw [ha]; rfl)).1, by rw [← HL.out, ← HLN.out]; exact HR.out, HBL.out⟩
      rw [← HLN.out]
      rcases HC.out.2 with ⟨hv, h0⟩ | ⟨g, cap, cur, hv, _, _, q1, _⟩
      · omega
      · injection hv with _ _ e3; omega
end Go.Proofs.YtfaleddacmbidaaDoor
