/- Merged texts: Wl Wm Wd O5 C14 C15 C16 C17 We -/
import Derived.Test.YtnlhllleipemlaaGreatDoorG6
namespace Go.Proofs.YtnlhllleipemlaaGreatDoor
open Go.RowKit Go.Sort

/-- Digits alone. -/
def dig (l : List UInt8) : Prop := ∀ b ∈ l, 48 ≤ b.toNat ∧ b.toNat ≤ 57
theorem numOf_lt {l : List UInt8} (h : dig l) : numOf l < 10 ^ l.length := by
  refine snoc_ind (P := fun l => dig l → numOf l < 10 ^ l.length) ?_ ?_ l h
  · intro _; simp [numOf]
  · intro l a ih h
    have h1 := ih fun b hb => h b (List.mem_append_left _ hb)
    have h2 := h a (by simp)
    rw [numOf_snoc, List.length_append, List.length_singleton, Nat.pow_succ]
    omega
/-- What the reading of a number gives. -/
structure SmallR (s : ByteArray) (n : Nat) (r : ByteArray) (ok : Bool) : Prop where
  bd : n ≤ 9999
  sz : r.size ≤ s.size
  key : ∀ (m : Int) r', 0 ≤ m → m ≤ 99 → s.data.toList = Lib.itoa m ++ 32 :: r' → (n : Int) = m ∧ r.data.toList = r' ∧ ok = true
theorem itoa_short {m : Int} (h0 : 0 ≤ m) (h1 : m ≤ 99) : (Lib.itoa m).length ≤ 2 := by
  unfold Lib.itoa
  rw [if_neg (by omega), decDigits_dec _ (by omega)]
  unfold decL
  split <;> simp
theorem numOf_itoa {m : Int} (h0 : 0 ≤ m) : (numOf (Lib.itoa m) : Int) = m := by
  unfold Lib.itoa
  rw [if_neg (by omega), numOf_dec]
  omega
theorem dig_blank {l : List UInt8} (h : dig l) : (32 : UInt8) ∉ l := fun hm => by have := h _ hm; revert this; decide
theorem dig_itoa {m : Int} (h0 : 0 ≤ m) : dig (Lib.itoa m) := fun b hb => by
  unfold Lib.itoa at hb
  rw [if_neg (by omega)] at hb
  exact decDigits_mem _ _ hb
theorem dig_le {l u r : List UInt8} {k : Nat} (h : dig (l.take k)) (he : l = u ++ 32 :: r) : k ≤ u.length := by
  rcases Nat.lt_or_ge u.length k with h1 | h1
  · exfalso
    refine dig_blank h ?_
    rw [he, List.take_append, List.take_of_length_le (by omega), List.mem_append]
    refine .inr ?_
    obtain ⟨j, hj⟩ : ∃ j, k - u.length = j + 1 := ⟨k - u.length - 1, by omega⟩
    rw [hj, List.take_succ_cons]
    exact List.mem_cons_self
  · exact h1
/-- The reading stops without a number. -/
theorem small_not {s : ByteArray} {k : Nat} (h : dig (s.data.toList.take k)) (hk : 3 ≤ k ∨ s.size ≤ k ∨ ∃ hk : k < s.size, s[k] ≠ (32 : UInt8) ∧ ¬ (48 ≤ s[k].toNat ∧ s[k].toNat ≤ 57)) : SmallR s 0 ⟨#[]⟩ false := by
  refine ⟨by omega, Nat.zero_le _, fun m r' h0 h1 he => ?_⟩
  exfalso
  have hle := dig_le h he
  have h2 := itoa_short h0 h1
  have hl : s.data.toList.length = s.size := by simp
  rcases hk with hk | hk | ⟨hk, h3, h4⟩
  · omega
  · have := congrArg List.length he
    rw [hl, List.length_append, List.length_cons] at this
    omega
  · have hg : s.data.toList[k]? = some s[k] := List.getElem?_eq_getElem (by omega)
    rw [he] at hg
    rcases Nat.lt_or_ge k (Lib.itoa m).length with h5 | h5
    · rw [List.getElem?_append_left h5] at hg
      exact h4 (dig_itoa h0 _ (List.mem_of_getElem? hg))
    · obtain rfl : k = (Lib.itoa m).length := by omega
      rw [List.getElem?_append_right (Nat.le_refl _), Nat.sub_self] at hg
      exact h3 (Option.some.inj hg).symm
theorem small_yes {s : ByteArray} {k : Nat} (h : dig (s.data.toList.take k)) (hk : k < s.size) (hk4 : k ≤ 4) (hb : s[k] = (32 : UInt8)) : SmallR s (numOf (s.data.toList.take k)) (s.extract (k + 1) s.size) (decide (0 < k)) := by
  have hl : s.data.toList.length = s.size := by simp
  refine ⟨?_, by rw [ByteArray.size_extract]; omega, fun m r' h0 h1 he => ?_⟩
  · have h1 := numOf_lt h
    rw [List.length_take, hl, Nat.min_eq_left (by omega)] at h1
    have h2 : 10 ^ k ≤ 10 ^ 4 := Nat.pow_le_pow_right (by omega) hk4
    omega
  · have hs := split_at hk hb
    rw [he] at hs
    obtain ⟨e1, e2⟩ := part_eq (itoa_blank m) (by rw [← he]; exact dig_blank h) hs
    rw [← he] at e1 e2
    refine ⟨by rw [← e1]; exact numOf_itoa h0, ?_, ?_⟩
    · rw [e2, ByteArray.data_extract, Array.toList_extract]
      simp only [List.extract]
      rw [List.take_of_length_le (by rw [List.length_drop]; omega)]
    · rw [decide_eq_true_eq]
      have := itoa_pos m
      have h3 := congrArg List.length e1
      rw [List.length_take, hl, Nat.min_eq_left (by omega)] at h3
      omega
theorem dig_snoc {s : ByteArray} {k : Nat} (h : dig (s.data.toList.take k)) (hk : k < s.size) (hb : 48 ≤ s[k].toNat ∧ s[k].toNat ≤ 57) : dig (s.data.toList.take (k + 1)) ∧ numOf (s.data.toList.take (k + 1)) = 10 * numOf (s.data.toList.take k) + (s[k].toNat - 48) := by
  have ht : s.data.toList.take (k + 1) = s.data.toList.take k ++ [s[k]] := by rw [List.take_succ_eq_append_getElem (by simpa using hk)]; rfl
  refine ⟨fun b hm => ?_, by rw [ht, numOf_snoc]⟩
  rw [ht] at hm
  rcases List.mem_append.1 hm with h1 | h1
  · exact h b h1
  · rw [List.mem_singleton.1 h1]; exact hb
set_option maxRecDepth 100000 in
set_option maxHeartbeats 4000000 in
theorem small_any (s : ByteArray) (w : World) (hs : s.size ≤ 1000000) : Calls Tryz.prog 54 #[.string s] w fun r w' => ∃ n t ok, SmallR s n t ok ∧ r = .returned (.tuple #[.int .i64 n, .string t, .bool ok]) ∧ Below w.heap.size w w' := by
  go_enter Tryz.func54, Tryz.ntmps54
  go_wp2_with fail
  go_loopw [5, 6] (fun v i wr => ∃ k : Nat, k ≤ 4 ∧ k ≤ s.size ∧ i = .int .i64 k ∧ v = .int .i64 (numOf (s.data.toList.take k) : Nat) ∧ dig (s.data.toList.take k) ∧ wr = w) (fun _ i _ => 4 - (intOf i).toNat)
  case atStart => exact ⟨0, by omega, by omega, rfl, by simp [numOf], fun b hb => by simp at hb, rfl⟩
  case round =>
    obtain ⟨k, hk, hks, rfl, rfl, hd, hw⟩ := hrel
    have HD := Lib.hid hd
    have HW := Lib.hid hw
    have hnb : numOf (s.data.toList.take k) ≤ 9999 := by
      have h1 := numOf_lt hd
      have h2 : 10 ^ (s.data.toList.take k).length ≤ 10 ^ 4 := Nat.pow_le_pow_right (by omega) (by rw [List.length_take]; omega)
      omega
    obtain ⟨x, hx⟩ : ∃ x, numOf (s.data.toList.take k) = x := ⟨_, rfl⟩
    rw [hx] at hnb
    have HX := Lib.hid hx
    clear hd hw
    by_cases hlt : k < s.size
    · by_cases hk4 : k < 4
      · by_cases hb : s[k] = (32 : UInt8)
        · have g : ((s[k].toNat : Int) == 32) = true := by rw [hb]; rfl
          have HS := Lib.hid (small_yes HD.out hlt hk hb)
          rw [hx] at HS
          clear hb
          rw [hx]
          clear hx
          go_wp2_with fail
          go_quiet (fail)
          go_wp2_with fail
          go_ret3
          exact ⟨x, _, _, HS.out, rfl, HW.out ▸ below_drewN' (Below.refl _ _) _⟩
        · by_cases hdd : 48 ≤ s[k].toNat ∧ s[k].toNat ≤ 57
          · have g : ((s[k].toNat : Int) == 32) = false := by rw [beq_eq_false_iff_ne]; omega
            obtain ⟨d1, d2⟩ := dig_snoc HD.out hlt hdd
            have HD2 := Lib.hid d1
            have HX2 := Lib.hid d2
            rw [hx] at HX2
            obtain ⟨b1, b2⟩ := hdd
            have b1' : (48 : Int) ≤ (s[k].toNat : Int) := by omega
            have b2' : (s[k].toNat : Int) ≤ 57 := by omega
            clear d1 d2 hb
            rw [hx]
            clear hx
            go_wp2_with fail
            go_roundw
            case rel => exact ⟨k + 1, by omega, by omega, by go_num, by rw [HX2.out]; exact congrArg (Value.int IntKind.i64) (by omega), HD2.out, HW.out⟩
            case measure => simp [intOf]; omega
          · have g : ((s[k].toNat : Int) == 32) = false := by
              rw [beq_eq_false_iff_ne]
              exact fun e => hb (UInt8.toNat_inj.1 (by show s[k].toNat = 32; omega))
            have HN := Lib.hid (small_not HD.out (.inr (.inr ⟨hlt, hb, hdd⟩)))
            have hc : (s[k].toNat : Int) < 48 ∨ (48 ≤ (s[k].toNat : Int) ∧ 57 < (s[k].toNat : Int)) := by omega
            clear hb hdd
            rw [hx]
            clear hx
            rcases hc with b1 | ⟨b1, b2⟩
            all_goals
              go_wp2_with fail
              go_ret3
              exact ⟨0, _, _, HN.out, rfl, HW.out ▸ Below.refl _ _⟩
      · have HN := Lib.hid (small_not HD.out (.inl (by omega)))
        rw [hx]
        clear hx
        go_wp2_with fail
        go_ret3
        exact ⟨0, _, _, HN.out, rfl, HW.out ▸ Below.refl _ _⟩
    · have HN := Lib.hid (small_not HD.out (.inr (.inl (by omega))))
      rw [hx]
      clear hx
      go_wp2_with fail
      go_ret3
      exact ⟨0, _, _, HN.out, rfl, HW.out ▸ Below.refl _ _⟩
end Go.Proofs.YtnlhllleipemlaaGreatDoor

namespace Go.Proofs.YtnlhllleipemlaaGreatDoor
open Go.RowKit Go.Sort

/-- What is left of a line behind some numbers. -/
def restL (y : Ent) (k : Nat) : List UInt8 := ((nums y).drop k).foldr (fun z acc => Lib.itoa z ++ 32 :: acc) y.2.2.2.data.toList
theorem restL_zero (y : Ent) : restL y 0 = bodyL y := rfl
theorem restL_five (y : Ent) : restL y 5 = y.2.2.2.data.toList := rfl
theorem restL_step {y : Ent} {k : Nat} {z : Int} (h : (nums y)[k]? = some z) : restL y k = Lib.itoa z ++ 32 :: restL y (k + 1) := by
  obtain ⟨hk, h⟩ := List.getElem?_eq_some_iff.1 h
  unfold restL
  rw [List.drop_eq_getElem_cons hk, h]
  rfl
theorem nums_small {y : Ent} (h : smallE y) {k : Nat} {z : Int} (hz : (nums y)[k]? = some z) : 0 ≤ z ∧ z ≤ 99 := by
  have := List.mem_of_getElem? hz
  simp only [nums, List.mem_cons, List.not_mem_nil, or_false] at this
  obtain ⟨⟨a, b⟩, ⟨c, d⟩, ⟨f, g⟩, ⟨i, j⟩, k, l⟩ := h
  rcases this with rfl | rfl | rfl | rfl | rfl <;> omega
/-- What the reading of a line gives. -/
structure EntryR (s : ByteArray) (x : Ent) (ok : Bool) : Prop where
  key : ∀ y, smallE y → bodyL y = s.data.toList → ok = true ∧ x = y
  pl : ok = true → 0 ≤ x.1 ∧ x.1 ≤ 2
  sz : x.2.2.2.size ≤ s.size
/-- Behind some numbers. -/
structure EnK (s : ByteArray) (zs : List Int) (cur : ByteArray) (k : Nat) : Prop where
  len : zs.length = 5
  sz : cur.size ≤ s.size
  bd : ∀ z ∈ zs, 0 ≤ z ∧ z ≤ 9999
  key : ∀ y, smallE y → bodyL y = s.data.toList → (∀ j, j < k → zs[j]? = (nums y)[j]?) ∧ cur.data.toList = restL y k
theorem EnK.new (s : ByteArray) : EnK s [0, 0, 0, 0, 0] s 0 := ⟨rfl, Nat.le_refl _, fun z hz => by simp at hz; omega, fun y _ he => ⟨fun j hj => by omega, he ▸ rfl⟩⟩
theorem EnK.put {s cur : ByteArray} {zs : List Int} {k n : Nat} {t : ByteArray} (h : EnK s zs cur k) (hk : k < 5) (hs : SmallR cur n t true) : EnK s (zs.set k (n : Int)) t (k + 1) := by
  have hl := h.len
  refine ⟨by simp [hl], Nat.le_trans hs.sz h.sz, fun z hz => ?_, fun y hy he => ?_⟩
  · rcases List.mem_or_eq_of_mem_set hz with h1 | h1
    · exact h.bd z h1
    · have := hs.bd; omega
  · obtain ⟨h1, h2⟩ := h.key y hy he
    obtain ⟨z, hz⟩ : ∃ z, (nums y)[k]? = some z := ⟨_, List.getElem?_eq_getElem (by show k < 5; exact hk)⟩
    obtain ⟨z0, z1⟩ := nums_small hy hz
    rw [restL_step hz] at h2
    obtain ⟨e1, e2, _⟩ := hs.key z _ z0 z1 h2
    refine ⟨fun j hj => ?_, e2⟩
    by_cases hj2 : j = k
    · subst hj2
      rw [List.getElem?_set_self (by omega), hz, e1]
    · rw [List.getElem?_set_ne (Ne.symm hj2)]
      exact h1 j (by omega)
theorem EnK.bad {s cur : ByteArray} {zs : List Int} {k n : Nat} {t : ByteArray} (h : EnK s zs cur k) (hk : k < 5) (hs : SmallR cur n t false) : EntryR s entZ false := by
  refine ⟨fun y hy he => ?_, (fun h => by cases h), Nat.zero_le _⟩
  obtain ⟨_, h2⟩ := h.key y hy he
  obtain ⟨z, hz⟩ : ∃ z, (nums y)[k]? = some z := ⟨_, List.getElem?_eq_getElem (by show k < 5; exact hk)⟩
  obtain ⟨z0, z1⟩ := nums_small hy hz
  rw [restL_step hz] at h2
  exact absurd (hs.key z _ z0 z1 h2).2.2 (by simp)
theorem EnK.end {s cur : ByteArray} {zs : List Int} {a b c d f : Int} (h : EnK s zs cur 5) (hz : zs = [a, b, c, d, f]) : EntryR s (a, b, (c, d, f), cur) (decide (a < 3)) := by
  have hk : ∀ y, smallE y → bodyL y = s.data.toList → (a, b, (c, d, f), cur) = y := fun y hy he => by
    obtain ⟨h1, h2⟩ := h.key y hy he
    subst hz
    have e0 := h1 0 (by omega)
    have e1 := h1 1 (by omega)
    have e2 := h1 2 (by omega)
    have e3 := h1 3 (by omega)
    have e4 := h1 4 (by omega)
    simp [nums] at e0 e1 e2 e3 e4
    obtain ⟨y0, y1, ⟨y2, y3, y4⟩, y5⟩ := y
    dsimp only at e0 e1 e2 e3 e4
    subst e0 e1 e2 e3 e4
    rw [restL_five] at h2
    have : cur = y5 := ByteArray.ext (Array.toList_inj.1 h2)
    rw [this]
  refine ⟨fun y hy he => ⟨?_, hk y hy he⟩, fun h3 => ?_, h.sz⟩
  · have := hk y hy he
    rw [decide_eq_true_eq]
    have h1 := hy.1
    rw [← this] at h1
    dsimp only at h1
    omega
  · rw [decide_eq_true_eq] at h3
    have := h.bd a (by rw [hz]; simp)
    exact ⟨this.1, by show a ≤ 2; omega⟩
/-- What lies there while a line is read. -/
structure En (w : World) (zs : List Int) (wr : World) : Prop where
  res : Box wr w.heap.size zero6
  rfz : ∀ i, wr.frozen? ⟨w.heap.size, i, none⟩ = false
  arr : Box wr (w.heap.size + 1) (ints zs).toArray
  afz : ∀ i, wr.frozen? ⟨w.heap.size + 1, i, none⟩ = false
  bel : Below w.heap.size w wr
theorem En.on {w wr w' : World} {zs : List Int} (h : En w zs wr) (hb : Below wr.heap.size wr w') : En w zs w' :=
  ⟨h.res.below hb, fz_below h.res.1 h.rfz hb, h.arr.below hb, fz_below h.arr.1 h.afz hb, below_trans' h.bel hb⟩
theorem En.put {w wr : World} {zs : List Int} {k : Nat} {v : Int} (h : En w zs wr) (hk : k < zs.length) : En w (zs.set k v) (wr.setCell ⟨w.heap.size + 1, k, none⟩ (.int .i64 v)) := by
  refine ⟨h.res.far (p := ⟨w.heap.size + 1, k, none⟩) (by show w.heap.size ≠ w.heap.size + 1; omega) _, fun i => by rw [World.frozen?_setCell]; exact h.rfz i, ?_, fun i => by rw [World.frozen?_setCell]; exact h.afz i, h.bel.setCell (p := ⟨w.heap.size + 1, k, none⟩) (by show w.heap.size ≤ w.heap.size + 1; omega) _⟩
  have := h.arr.set (i := k) (by simp [ints]; omega) (.int .i64 v)
  rw [show (ints (zs.set k v)).toArray = (ints zs).toArray.setIfInBounds k (.int .i64 v) by simp [ints, List.map_set]]
  exact this
theorem En.at {w wr : World} {zs : List Int} (h : En w zs wr) {j : Nat} (hj : j < zs.length) : ∃ z, zs[j]? = some z ∧ wr.cell? ⟨w.heap.size + 1, j, none⟩ = some (.int .i64 z) := by
  have hz : zs[j]? = some zs[j] := List.getElem?_eq_getElem hj
  exact ⟨_, hz, by rw [h.arr.2 j]; simp [ints, hz]⟩
theorem En.new (w : World) : En w [0, 0, 0, 0, 0] ((w.alloc (.cells zero6 48)).alloc (.cells #[.int .i64 0, .int .i64 0, .int .i64 0, .int .i64 0, .int .i64 0] 77)) :=
  ⟨(Box.new _ _ _).alloc _, fz_below (Box.new _ _ _).1 (fz_new _ _ _) (belowA _ _), Box.new2 _ _ _ _ _, by have := fz_new (w.alloc (.cells zero6 48)) #[.int .i64 0, .int .i64 0, .int .i64 0, .int .i64 0, .int .i64 0] 77; rwa [World.size_alloc] at this, belowAA _ _ _⟩
set_option maxRecDepth 100000 in
set_option maxHeartbeats 8000000 in
theorem entry_any (s : ByteArray) (w : World) (hs : s.size ≤ 100000) : Calls Tryz.prog 28 #[.string s] w fun r w' => (∃ x ok, EntryR s x ok ∧ r = .returned (.tuple #[eval_ x, .bool ok])) ∧ Below w.heap.size w w' := by
  go_enter Tryz.func28, Tryz.ntmps28
  go_wp2_with fail
  have HE0 := Lib.hid (En.new w)
  generalize (w.alloc (.cells zero6 48)).alloc (.cells #[.int .i64 0, .int .i64 0, .int .i64 0, .int .i64 0, .int .i64 0] 77) = w1 at HE0 ⊢
  go_loopw [0, 5, 6, 7, 8] (fun cu i _ _ _ wr => ∃ (k : Nat) (zs : List Int) (cur : ByteArray), k ≤ 5 ∧ i = .int .i64 k ∧ cu = .string cur ∧ EnK s zs cur k ∧ En w zs wr) (fun _ i _ _ _ _ => 5 - (intOf i).toNat)
  case atStart => exact ⟨0, _, s, by omega, rfl, rfl, EnK.new s, HE0.out⟩
  case round =>
    clear HE0
    obtain ⟨k, zs, cur, hk, rfl, rfl, hek, hen⟩ := hrel
    have HK := Lib.hid hek
    have HE := Lib.hid hen
    have hcs := hek.sz
    clear hek hen
    by_cases hlt : k < 5
    · go_wp2_with fail
      with_reducible refine (small_any cur _ (by omega)).mono ?_
      rintro _ w2 ⟨n, t, ok, hsm, rfl, hb2⟩
      have HE2 := Lib.hid (HE.out.on hb2)
      have HSM := Lib.hid hsm
      clear hb2 hsm HE
      cases ok with
      | true =>
        obtain ⟨z, _, cz⟩ := HE2.out.at (j := k) (by rw [HK.out.len]; exact hlt)
        have fz := HE2.out.afz
        have Y := fun w' => ix77 (w.heap.size + 1) k hlt w'
        have HE3 := Lib.hid (HE2.out.put (k := k) (v := (n : Int)) (by rw [HK.out.len]; exact hlt))
        have HK3 := Lib.hid (HK.out.put hlt HSM.out)
        go_wp2_with fail
        go_roundw
        case rel => exact ⟨k + 1, _, _, by omega, by go_num, rfl, HK3.out, HE3.out⟩
        case measure => simp [intOf]; omega
      | false =>
        have HB := Lib.hid (HK.out.bad hlt HSM.out)
        have c0 := HE2.out.res.at
        have f0 := HE2.out.rfz
        go_wp2_with fail
        have cF := (box_put6 HE2.out.res (.int .i64 0) (.int .i64 0) (.int .i64 0) (.int .i64 0) (.int .i64 0) (.string ⟨#[]⟩)).at
        exact bodyPost_ret (v := .tuple #[eval_ entZ, .bool false]) (by simp [results, Tryz.results28, go_sem, cF, eval_, entZ]) rfl ⟨⟨_, _, HB.out, rfl⟩, below_put6 HE2.out.bel (Nat.le_refl _) _ _ _ _ _ _⟩
    · obtain rfl : k = 5 := by omega
      obtain ⟨z0, hz0, a0⟩ := HE.out.at (j := 0) (by rw [HK.out.len]; omega)
      obtain ⟨z1, hz1, a1⟩ := HE.out.at (j := 1) (by rw [HK.out.len]; omega)
      obtain ⟨z2, hz2, a2⟩ := HE.out.at (j := 2) (by rw [HK.out.len]; omega)
      obtain ⟨z3, hz3, a3⟩ := HE.out.at (j := 3) (by rw [HK.out.len]; omega)
      obtain ⟨z4, hz4, a4⟩ := HE.out.at (j := 4) (by rw [HK.out.len]; omega)
      have hzs : zs = [z0, z1, z2, z3, z4] := by
        have hl := HK.out.len
        apply List.ext_getElem?
        intro j
        rcases Nat.lt_or_ge j 5 with hj | hj
        · rcases (show j = 0 ∨ j = 1 ∨ j = 2 ∨ j = 3 ∨ j = 4 by omega) with rfl | rfl | rfl | rfl | rfl <;> simp [hz0, hz1, hz2, hz3, hz4]
        · rw [List.getElem?_eq_none (by omega), List.getElem?_eq_none (by simpa using hj)]
      have HEND := Lib.hid (HK.out.end hzs)
      have Y0 : ∀ w', (Instr.indexAt 77 (.pointer (some ⟨w.heap.size + 1, 0, none⟩)) (.int .i64 0)).run Tryz.prog w' = .ok (.pointer (some ⟨w.heap.size + 1, 0, none⟩)) w' := fun w' => ix77 _ 0 (by omega) w'
      have Y1 : ∀ w', (Instr.indexAt 77 (.pointer (some ⟨w.heap.size + 1, 0, none⟩)) (.int .i64 1)).run Tryz.prog w' = .ok (.pointer (some ⟨w.heap.size + 1, 1, none⟩)) w' := fun w' => ix77 _ 1 (by omega) w'
      have Y2 : ∀ w', (Instr.indexAt 77 (.pointer (some ⟨w.heap.size + 1, 0, none⟩)) (.int .i64 2)).run Tryz.prog w' = .ok (.pointer (some ⟨w.heap.size + 1, 2, none⟩)) w' := fun w' => ix77 _ 2 (by omega) w'
      have Y3 : ∀ w', (Instr.indexAt 77 (.pointer (some ⟨w.heap.size + 1, 0, none⟩)) (.int .i64 3)).run Tryz.prog w' = .ok (.pointer (some ⟨w.heap.size + 1, 3, none⟩)) w' := fun w' => ix77 _ 3 (by omega) w'
      have Y4 : ∀ w', (Instr.indexAt 77 (.pointer (some ⟨w.heap.size + 1, 0, none⟩)) (.int .i64 4)).run Tryz.prog w' = .ok (.pointer (some ⟨w.heap.size + 1, 4, none⟩)) w' := fun w' => ix77 _ 4 (by omega) w'
      have B0 := Lib.hid hz0
      have B1 := Lib.hid hz1
      have B2 := Lib.hid hz2
      have B3 := Lib.hid hz3
      have B4 := Lib.hid hz4
      have NE : w.heap.size + 1 ≠ w.heap.size := by omega
      clear a0 a1 a2 a3 a4 hz0 hz1 hz2 hz3 hz4 hzs
      go_wp2_with fail
      refine wp_region_hw [0, 1, 2, 3, 4, 5, 6, 7, 8, 9, 10, 11, 12, 13, 14, 15] [16, 17] (fun W => Box W (w.heap.size + 1) (ints zs).toArray) mixed (by kernel_rfl) (Rl := fun u v => Below u.heap.size u v) (fun w => Below.refl _ _) (fun _ _ _ h1 h2 => below_trans' h1 h2) (fun W W' h hg => h.below hg) HE.out.arr.drew ?_
      iterate 16
        refine canonR_read (v := ?_) rfl (by rfl) ?_ ?_
        rotate_left
        · intro W hSw
          have k : ∀ (j : Nat) (z : Int), zs[j]? = some z → W.cell? ⟨w.heap.size + 1, j, none⟩ = some (.int .i64 z) := fun j z h => by rw [hSw.2 j]; simp [ints, h]
          have a0 := k _ _ B0.out
          have a1 := k _ _ B1.out
          have a2 := k _ _ B2.out
          have a3 := k _ _ B3.out
          have a4 := k _ _ B4.out
          clear k
          go_simp <;> with_reducible rfl
        simp only [List.getElem_toArray, List.getElem_cons_zero, List.getElem_cons_succ, Act.put, List.setIfInBounds_toArray, List.set_cons_succ, List.set_cons_zero]
      clear Y0 Y1 Y2 Y3 Y4 B0 B1 B2 B3 B4
      refine canonR_nil ?_
      refine tailR_one (t := 16) (ts' := [17]) (by kernel_rfl) rfl rfl ?_
      intro w6 hb6
      have hb6' := below_trans' (below_drewN' (Below.refl _ _) 1 : Below wr.heap.size wr wr.drew) hb6
      have HE6 := Lib.hid (HE.out.on hb6')
      have c0 := HE6.out.res.at
      have f0 := HE6.out.rfz
      clear hb6 hb6'
      go_wp2_with fail
      refine ⟨(((((HE6.out.arr.far (p := ⟨w.heap.size, 0, none⟩) NE _).far (p := ⟨w.heap.size, 1, none⟩) NE _).far (p := ⟨w.heap.size, 2, none⟩) NE _).far (p := ⟨w.heap.size, 3, none⟩) NE _).far (p := ⟨w.heap.size, 4, none⟩) NE _).far (p := ⟨w.heap.size, 5, none⟩) NE _, ?_⟩
      refine tailR_last (t := 17) (by kernel_rfl) rfl ?_
      intro w8 hb8
      go_wp2_with fail
      refine NoPanic.normal ?_
      go_wp2_with fail
      have bF := box_put6 HE6.out.res (.int .i64 z0) (.int .i64 z1) (.int .i64 z2) (.int .i64 z3) (.int .i64 z4) (.string cur)
      have cF := (bF.below hb8).at
      have hbF := below_trans' (below_put6 HE6.out.bel (Nat.le_refl _) (.int .i64 z0) (.int .i64 z1) (.int .i64 z2) (.int .i64 z3) (.int .i64 z4) (.string cur)) hb8
      exact bodyPost_ret (v := .tuple #[eval_ (z0, z1, (z2, z3, z4), cur), .bool (decide (z0 < 3))]) (by simp [results, Tryz.results28, go_sem, cF, eval_]) rfl ⟨⟨_, _, HEND.out, rfl⟩, hbF⟩
end Go.Proofs.YtnlhllleipemlaaGreatDoor

namespace Go.Proofs.YtnlhllleipemlaaGreatDoor
open Go.RowKit Go.Sort

def seenL (e : Ent) : List Int := [e.2.2.1.1, e.2.2.1.2.1, e.2.2.1.2.2]
def refH (e : Ent) (k : Nat) : List UInt8 := Lib.itoa e.1 ++ [32] ++ Lib.itoa e.2.1 ++ ((seenL e).take k).flatMap fun z => [32] ++ Lib.itoa z
theorem refH_zero (e : Ent) : refH e 0 = Lib.itoa e.1 ++ [32] ++ Lib.itoa e.2.1 := by simp [refH]
theorem refH_succ {e : Ent} {k : Nat} {z : Int} (h : (seenL e)[k]? = some z) : refH e (k + 1) = refH e k ++ ([32] ++ Lib.itoa z) := by
  unfold refH
  rw [take_succ_of h, List.flatMap_append]
  simp
theorem refH_three (e : Ent) : refH e 3 ++ [32] ++ e.2.2.2.data.toList ++ [10] = lineL e := by
  simp [refH, seenL, lineL, bodyL]
theorem refH_len {e : Ent} (h : fitsE e) {k : Nat} (hk : k ≤ 3) : (refH e k).length ≤ 200 := by
  obtain ⟨h1, h2, h3, h4, h5⟩ := h
  have l1 := itoa_len h1
  have l2 := itoa_len h2
  have l3 := itoa_len h3
  have l4 := itoa_len h4
  have l5 := itoa_len h5
  rcases (show k = 0 ∨ k = 1 ∨ k = 2 ∨ k = 3 by omega) with rfl | rfl | rfl | rfl <;> simp [refH, seenL] <;> omega
set_option maxRecDepth 100000 in
set_option maxHeartbeats 4000000 in
theorem refLine_any (e : Ent) (w : World) (h : fitsE e) (ht : e.2.2.2.size ≤ 100000) (hT : Tab w) :
    Calls Tryz.prog 32 #[eval_ e] w fun r w' => r = .returned (.string ⟨(lineL e).toArray⟩) ∧ Below w.heap.size w w' := by
  have HF := Lib.hid h
  have HT := Lib.hid hT
  have HHL : Hid (∀ k, k ≤ 3 → (refH e k).length ≤ 200) := Lib.hid fun k hk => refH_len h hk
  have HR3 := Lib.hid (refH_three e)
  have HR0 := Lib.hid (refH_zero e)
  have hl1 := itoa_len h.1
  have hl2 := itoa_len h.2.1
  clear h hT
  go_enter Tryz.func32, Tryz.ntmps32
  dsimp only [eval_]
  have HB0 := Lib.hid (Box.new w #[.int .i64 e.1, .int .i64 e.2.1, .int .i64 e.2.2.1.1, .int .i64 e.2.2.1.2.1, .int .i64 e.2.2.1.2.2, .string e.2.2.2] 48)
  go_wp2_with fail
  have HW0 := Lib.hid (belowA w (.cells #[.int .i64 e.1, .int .i64 e.2.1, .int .i64 e.2.2.1.1, .int .i64 e.2.2.1.2.1, .int .i64 e.2.2.1.2.2, .string e.2.2.2] 48))
  generalize w.alloc (.cells #[.int .i64 e.1, .int .i64 e.2.1, .int .i64 e.2.2.1.1, .int .i64 e.2.2.1.2.1, .int .i64 e.2.2.1.2.2, .string e.2.2.2] 48) = w1 at HB0 HW0 ⊢
  have HT1 := Lib.hid (tab_below HT.out HW0.out)
  refine wp_region_hw [0, 1, 2, 3, 4, 5, 6, 7] [8] (fun W => Below w1.heap.size w1 W) mixed (by kernel_rfl) (Rl := fun u v => Below u.heap.size u v) (fun w => Below.refl _ _) (fun _ _ _ h1 h2 => below_trans' h1 h2) (fun W W' h hg => below_trans' h hg) (below_drewN' (Below.refl _ _) 1) ?_
  iterate 2
    refine canonR_read (v := ?_) rfl (by rfl) ?_ ?_
    rotate_left
    · intro w2 hSw
      have cS := (HB0.out.below hSw).at
      go_simp <;> with_reducible rfl
    simp only [List.getElem_toArray, List.getElem_cons_zero, List.getElem_cons_succ, Act.put, List.setIfInBounds_toArray, List.set_cons_succ, List.set_cons_zero]
  refine canonR_call (v := .string ⟨(Lib.itoa e.1).toArray⟩) (f := 59) (args := #[.int .i64 e.1]) rfl (by rfl) ?_ ?_ ?_
  · intro w2 hSw
    go_simp
  · intro w2 hSw
    exact itoa_any _ _ HF.out.1 (tab_below HT1.out hSw)
  simp only [List.getElem_toArray, List.getElem_cons_zero, List.getElem_cons_succ, Act.put, List.setIfInBounds_toArray, List.set_cons_succ, List.set_cons_zero]
  refine canonR_read (v := .string ⟨(Lib.itoa e.1 ++ [32]).toArray⟩) rfl (by rfl) ?_ ?_
  · intro w2 _
    go_simp
    rw [if_neg (by omega), appB]
  simp only [List.getElem_toArray, List.getElem_cons_zero, List.getElem_cons_succ, Act.put, List.setIfInBounds_toArray, List.set_cons_succ, List.set_cons_zero]
  iterate 2
    refine canonR_read (v := ?_) rfl (by rfl) ?_ ?_
    rotate_left
    · intro w2 hSw
      have cS := (HB0.out.below hSw).at
      go_simp <;> with_reducible rfl
    simp only [List.getElem_toArray, List.getElem_cons_zero, List.getElem_cons_succ, Act.put, List.setIfInBounds_toArray, List.set_cons_succ, List.set_cons_zero]
  refine canonR_call (v := .string ⟨(Lib.itoa e.2.1).toArray⟩) (f := 59) (args := #[.int .i64 e.2.1]) rfl (by rfl) ?_ ?_ ?_
  · intro w2 hSw
    go_simp
  · intro w2 hSw
    exact itoa_any _ _ HF.out.2.1 (tab_below HT1.out hSw)
  simp only [List.getElem_toArray, List.getElem_cons_zero, List.getElem_cons_succ, Act.put, List.setIfInBounds_toArray, List.set_cons_succ, List.set_cons_zero]
  refine canonR_read (v := .string ⟨(refH e 0).toArray⟩) rfl (by rfl) ?_ ?_
  · intro w2 _
    rw [HR0.out]
    go_simp
    rw [if_neg (by omega), appB]
    simp
  simp only [List.getElem_toArray, List.getElem_cons_zero, List.getElem_cons_succ, Act.put, List.setIfInBounds_toArray, List.set_cons_succ, List.set_cons_zero]
  refine canonR_nil ?_
  refine tailR_last (t := 8) (by kernel_rfl) rfl ?_
  intro w9 hb9
  have hb9' := below_trans' (below_drewN' (Below.refl _ _) 1 : Below w1.heap.size w1 w1.drew) hb9
  have HB9 := Lib.hid (HB0.out.below hb9')
  have HT9 := Lib.hid (tab_below HT1.out hb9')
  have HW9 := Lib.hid (below_trans' HW0.out hb9')
  clear hb9 hb9' HB0 HW0 HT1 hl1 hl2 HR0
  go_wp2_with fail
  refine NoPanic.normal ?_
  go_wp2_with fail
  go_loopw [3, 4] (fun v i wr => ∃ k : Nat, k ≤ 3 ∧ i = .int .i64 k ∧ v = .string ⟨(refH e k).toArray⟩ ∧ Box wr w.heap.size #[.int .i64 e.1, .int .i64 e.2.1, .int .i64 e.2.2.1.1, .int .i64 e.2.2.1.2.1, .int .i64 e.2.2.1.2.2, .string e.2.2.2] ∧ Tab wr ∧ Below w.heap.size w wr) (fun _ i _ => 3 - (intOf i).toNat)
  case atStart => exact ⟨0, by omega, rfl, rfl, HB9.out, HT9.out, HW9.out⟩
  case round =>
    clear HB9 HT9 HW9
    obtain ⟨k, hk, rfl, rfl, hbx, htb, hbw⟩ := hrel
    have HB := Lib.hid hbx
    have HTB := Lib.hid htb
    have HBW := Lib.hid hbw
    have hln := HHL.out k hk
    clear hbx htb hbw
    by_cases hlt : k < 3
    · have Y := fun w' => ix35 w.heap.size 2 k hlt w'
      obtain ⟨z, hz⟩ : ∃ z, (seenL e)[k]? = some z := ⟨_, List.getElem?_eq_getElem (by show k < 3; exact hlt)⟩
      have cz : wr.cell? ⟨w.heap.size, 2 + k, none⟩ = some (.int .i64 z) := by
        rw [HB.out.2]
        rcases (show k = 0 ∨ k = 1 ∨ k = 2 by omega) with rfl | rfl | rfl <;> (simp [seenL] at hz; subst hz; rfl)
      have hf : fits z := by
        obtain ⟨_, _, h3, h4, h5⟩ := HF.out
        rcases (show k = 0 ∨ k = 1 ∨ k = 2 by omega) with rfl | rfl | rfl <;> (simp [seenL] at hz; subst hz; assumption)
      have hz1 := itoa_len hf
      have HZ := Lib.hid (refH_succ hz)
      have HFZ := Lib.hid hf
      clear hz hf
      go_wp2_with fail
      with_reducible refine (itoa_any z _ HFZ.out HTB.out).mono ?_
      rintro _ w4 ⟨rfl, hb4⟩
      have HB4 := Lib.hid (HB.out.below hb4)
      have HT4 := Lib.hid (tab_below HTB.out hb4)
      have HW4 := Lib.hid (below_trans' HBW.out hb4)
      clear hb4 cz HB HTB HBW
      go_wp2_with fail
      go_roundw
      case rel => exact ⟨k + 1, by omega, by go_num, by rw [HZ.out, ← appB, ← appB], HB4.out, HT4.out, HW4.out⟩
      case measure => simp [intOf]; omega
    · obtain rfl : k = 3 := by omega
      have cS := HB.out.at
      have hb2 : e.2.2.2.toList.length ≤ 100000 := by rw [ByteArray.toList_eq]; simpa using ht
      have E : (⟨(refH e 3).toArray⟩ : ByteArray) ++ (⟨#[32]⟩ : ByteArray) ++ e.2.2.2 ++ (⟨#[10]⟩ : ByteArray) = ⟨(lineL e).toArray⟩ := by
        have a1 := appB (refH e 3) [32]
        have a2 := appB (refH e 3 ++ [32]) e.2.2.2.data.toList
        have a3 := appB (refH e 3 ++ [32] ++ e.2.2.2.data.toList) [10]
        rw [← HR3.out, ← a3, ← a2, ← a1]
      have HE := Lib.hid E
      clear E
      go_wp2_with fail
      rw [HE.out]
      go_ret
      exact ⟨rfl, HBW.out⟩
end Go.Proofs.YtnlhllleipemlaaGreatDoor

namespace Go.Proofs.YtnlhllleipemlaaGreatDoor
open Go.RowKit Go.Sort

/-- The document's list as far as it is made. -/
def curO (es : List Ent) (n p k : Nat) : List Nat := agO es n ++ plO es n p ++ rowO es n p k
section
variable {es : List Ent}
theorem rowO_le (n p k : Nat) : (rowO es n p k).length ≤ k := by
  have := List.length_filter_le (hasO es n p) (List.range k)
  rwa [List.length_range] at this
theorem plO_le (n q : Nat) : (plO es n q).length ≤ q * es.length := by
  induction q with
  | zero => simp [plO]
  | succ q ih =>
    have := rowO_le (es := es) n q es.length
    show (plO es n q ++ rowO es n q es.length).length ≤ _
    rw [List.length_append, Nat.add_mul]
    omega
theorem agO_le (N : Nat) : (agO es N).length ≤ N * (3 * es.length) := by
  induction N with
  | zero => simp [agO]
  | succ N ih =>
    have := plO_le (es := es) N 3
    show (agO es N ++ plO es N 3).length ≤ _
    rw [List.length_append, Nat.add_mul, Nat.one_mul]
    omega
theorem curO_le {n p k : Nat} (h : es.length ≤ 60) (hn : n ≤ 181) (hp : p ≤ 3) (hk : k ≤ 60) : (curO es n p k).length < 1000000000 := by
  have h1 := agO_le (es := es) n
  have h2 := plO_le (es := es) n p
  have h3 := rowO_le (es := es) n p k
  have h4 : n * (3 * es.length) ≤ 181 * 180 := Nat.mul_le_mul hn (by omega)
  have h5 : p * es.length ≤ 3 * 60 := Nat.mul_le_mul hp h
  unfold curO
  rw [List.length_append, List.length_append]
  omega
theorem curO_yes {n p k : Nat} {e : Ent} (he : es[k]? = some e) (h1 : age e = n) (h2 : e.1 = p) : curO es n p (k + 1) = curO es n p k ++ [k] := by
  unfold curO rowO
  rw [List.range_succ, List.filter_append, show [k].filter (hasO es n p) = [k] by simp [hasO_some.2 ⟨e, he, h1, h2⟩]]
  simp only [List.append_assoc]
theorem curO_no {n p k : Nat} {e : Ent} (he : es[k]? = some e) (h : ¬ (age e = n ∧ e.1 = p)) : curO es n p (k + 1) = curO es n p k := by
  unfold curO rowO
  rw [List.range_succ, List.filter_append, show [k].filter (hasO es n p) = [] by
    have : hasO es n p k = false := by
      cases hh : hasO es n p k with
      | false => rfl
      | true =>
        obtain ⟨f, hf, h1, h2⟩ := hasO_some.1 hh
        obtain rfl := Option.some.inj (he.symm.trans hf)
        exact (h ⟨h1, h2⟩).elim
    simp [this], List.append_nil]
theorem curO_pl (n p : Nat) : curO es n p es.length = curO es n (p + 1) 0 := by
  show agO es n ++ plO es n p ++ rowO es n p es.length = agO es n ++ (plO es n p ++ rowO es n p es.length) ++ []
  rw [List.append_nil, List.append_assoc]
theorem curO_ag (n : Nat) : curO es n 3 0 = curO es (n + 1) 0 0 := by
  show agO es n ++ plO es n 3 ++ [] = agO es n ++ plO es n 3 ++ [] ++ []
  rw [List.append_nil, List.append_nil]
theorem curO_end : curO es 181 0 0 = ordL es := by
  show ordL es ++ [] ++ [] = _
  rw [List.append_nil, List.append_nil]
end
theorem len_snocN (l : List Nat) (k : Nat) : (l ++ [k]).length = l.length + 1 := by simp
/-- What the slot holds: a slice of the call's own with these numbers. -/
def HeldN (w0 : World) (l : List Nat) (w : World) (v : Value) : Prop := OwnX 3 1 w0 w v l.length (ints (l.map Int.ofNat))
theorem HeldN.on {w0 w w' : World} {l : List Nat} {v : Value} (h : HeldN w0 l w v) (hb : Below w.heap.size w w') : HeldN w0 l w' v := OwnX.on h hb
theorem HeldN.own {w0 w : World} {l : List Nat} {v : Value} (h : HeldN w0 l w v) : OwnX 3 1 w0 w v l.length (ints (l.map Int.ofNat)) := h
theorem HeldN.bel {w0 w : World} {l : List Nat} {v : Value} (h : HeldN w0 l w v) : Below w0.heap.size w0 w := OwnX.bel h
theorem HeldN.nil (w : World) : HeldN w [] w (.slice none 0 0) := OwnX.nil _ _ _
theorem HeldN.snoc {w0 w : World} {l : List Nat} {k : Nat} {v : Value} (h : OwnX 3 1 w0 w v (l.length + 1) (ints (l.map Int.ofNat) ++ [.int .i64 k])) : HeldN w0 (l ++ [k]) w v := by
  unfold HeldN
  rw [len_snocN]
  simpa [ints] using h
set_option maxRecDepth 100000 in
set_option maxHeartbeats 4000000 in
theorem refOrder_any (A : Option Addr) (n c : Nat) (es : List Ent) (w : World) (hl : Reads w w.heap.size 6 A n (ents es)) (hn : n ≤ 60) (ht : ∀ e ∈ es, tame e) :
    Calls Tryz.prog 31 #[.slice A n c] w fun r w' => ∃ A' c', r = .returned (.slice A' (ordL es).length c') ∧ w'.ownsRow w.heap.size 3 1 (.slice A' (ordL es).length c') (ordL es).length (ints ((ordL es).map Int.ofNat)) ∧ Below w.heap.size w w' := by
  have hlen := hl.1
  rw [ents_length] at hlen
  have l1 : n ≤ es.length := by omega
  have l2 : es.length ≤ n := by omega
  have HL := Lib.hid hl
  have HT := Lib.hid ht
  clear hl ht hlen
  go_enter Tryz.func31, Tryz.ntmps31
  go_wp2_with fail
  go_loopw [3, 4, 5, 6] (fun v i _ _ wr => ∃ a : Nat, a ≤ 181 ∧ i = .int .i64 a ∧ HeldN w (curO es a 0 0) wr v) (fun _ i _ _ _ => 181 - (intOf i).toNat)
  case atStart => exact ⟨0, by omega, rfl, HeldN.nil w⟩
  case round =>
    obtain ⟨a, ha, rfl, hown⟩ := hrel
    have HO := Lib.hid hown
    clear hown
    by_cases hlt : a ≤ 180
    · have i1 : (a : Int) ≤ 180 := by omega
      go_wp2_with fail
      go_loopw [3, 5, 6] (fun v i _ wr => ∃ p : Nat, p ≤ 3 ∧ i = .int .i64 p ∧ HeldN w (curO es a p 0) wr v) (fun _ i _ _ => 3 - (intOf i).toNat)
      case atStart => exact ⟨0, by omega, rfl, HO.out⟩
      case round =>
        clear HO
        obtain ⟨p, hp, rfl, hown⟩ := hrel
        have HO := Lib.hid hown
        clear hown
        by_cases hp3 : p < 3
        · have i2 : (p : Int) < 3 := by omega
          go_wp2_with fail
          go_loopw [3, 6] (fun v i wr => ∃ k : Nat, k ≤ n ∧ i = .int .i64 k ∧ HeldN w (curO es a p k) wr v) (fun _ i _ => n - (intOf i).toNat)
          case atStart => exact ⟨0, by omega, rfl, HO.out⟩
          case round =>
            clear HO
            obtain ⟨k, hk, rfl, hown⟩ := hrel
            have HO := Lib.hid hown
            clear hown
            by_cases hkn : k < n
            · obtain ⟨ad, e, e1, hbk, he, d0, d1, d2, d3, d4, d5⟩ := eat (HL.out.on HO.out.bel) (k := k) (by omega)
              have X := fun w => ix22 (c := c) e1 hkn w
              have HE := Lib.hid he
              have HM := Lib.hid (HT.out e (List.mem_of_getElem? he))
              have hln := curO_le (es := es) (n := a) (p := p) (k := k) (by omega) ha hp (by omega)
              have D0 := Go.Lib.cell?_alloc_some (ebox e) d0
              clear he e1
              go_wp2_with fail
              have K := age_any e wr HM.out
              by_cases h1 : age e = a
              · rw [h1] at K
                with_reducible refine K.mono ?_
                rintro _ w2 ⟨rfl, hw2⟩
                have HO2 := Lib.hid (HO.out.on (belowA wr (ebox e)))
                rw [← hw2] at HO2 D0
                clear d0 d1 d2 d3 d4 d5 HM hw2 HO K
                by_cases h2 : e.1 = p
                · have HC := Lib.hid (curO_yes HE.out h1 h2)
                  rw [h2] at D0
                  clear h1 h2
                  go_wp2_with (at_builtin; refine wpList_pushX rfl _ _ 67 3 rfl Tryz.underlying67 info3b rfl (by omega) (by omega) w _ _ _ _ [.int .i64 k] _ rfl (HO2.out.own.on (belowA _ _)) rfl (Box.new _ _ _) rfl (by intro u hu; rw [List.mem_singleton.1 hu]; rfl) hln ?_; intro v' w' hown'; have HO3 := Lib.hid hown'; clear hown')
                  go_roundw
                  case rel => exact ⟨k + 1, by omega, by go_num, by rw [HC.out]; exact HeldN.snoc HO3.out⟩
                  case measure => simp [intOf]; omega
                · have g2 : (e.1 == (p : Int)) = false := by simpa using h2
                  have HC := Lib.hid (curO_no (n := a) (p := p) HE.out (fun h => h2 h.2))
                  clear h1 h2
                  go_wp2_with fail
                  go_roundw
                  case rel => exact ⟨k + 1, by omega, by go_num, by rw [HC.out]; exact HO2.out⟩
                  case measure => simp [intOf]; omega
              · have g1 : (age e == (a : Int)) = false := by simpa using h1
                have HC := Lib.hid (curO_no (n := a) (p := p) HE.out (fun h => h1 h.1))
                clear h1
                with_reducible refine K.mono ?_
                rintro _ w2 ⟨rfl, hw2⟩
                have HO2 := Lib.hid (HO.out.on (belowA wr (ebox e)))
                rw [← hw2] at HO2 D0
                clear d0 d1 d2 d3 d4 d5 HM hw2 HO K
                go_wp2_with fail
                go_roundw
                case rel => exact ⟨k + 1, by omega, by go_num, by rw [HC.out]; exact HO2.out⟩
                case measure => simp [intOf]; omega
            · have HC : Hid (curO es a p k = curO es a (p + 1) 0) := Lib.hid (by rw [show k = es.length by omega]; exact curO_pl a p)
              rw [HC.out] at HO
              go_wp2_with fail
              go_roundw
              case rel => exact ⟨p + 1, by omega, by go_num, HO.out⟩
              case measure => simp [intOf]; omega
        · have HC : Hid (curO es a p 0 = curO es (a + 1) 0 0) := Lib.hid (by rw [show p = 3 by omega]; exact curO_ag a)
          rw [HC.out] at HO
          go_wp2_with fail
          go_roundw
          case rel => exact ⟨a + 1, by omega, by go_num, HO.out⟩
          case measure => simp [intOf]; omega
    · have HC : Hid (curO es a 0 0 = ordL es) := Lib.hid (by rw [show a = 181 by omega]; exact curO_end)
      rw [HC.out] at HO
      obtain ⟨A', c', hv, _⟩ := HO.out.own.form
      subst hv
      go_wp2_with fail
      go_ret
      exact ⟨A', c', rfl, HO.out.own.row, HO.out.bel⟩
end Go.Proofs.YtnlhllleipemlaaGreatDoor

namespace Go.Proofs.YtnlhllleipemlaaGreatDoor
open Go.RowKit Go.Sort

def meetL (a b : List Ent) : List Ent := if val2 a b = 0 then wo a b true else []
def relN (x y : Nat) : Int := if 0 < x ∧ 0 < y then 3 else if 0 < x then 1 else if 0 < y then 2 else 0
def relV (a b : List Ent) : Int := if val2 a b = 0 then relN (wo a b false).length (wo b a false).length else 0
/-- The first place of an entry with a property, or -1. -/
def IdxF (es : List Ent) (f : Ent → Bool) (i : Int) : Prop := (i = -1 ∧ ∀ e ∈ es, f e = false) ∨ ∃ k : Nat, i = k ∧ ∃ e, es[k]? = some e ∧ f e = true ∧ ∀ x ∈ es.take k, f x = false
set_option maxRecDepth 100000 in
theorem indexFunc68_any (q : Addr) (f : Ent → Bool) (S : World → Prop) (A : Option Addr) (n c : Nat) (es : List Ent) (w : World) (hl : Reads w w.heap.size 6 A n (ents es)) (hn : n ≤ 1000000)
    (hS : S w) (hon : ∀ w1 w2, S w1 → Below w1.heap.size w1 w2 → S w2)
    (hF : ∀ e ∈ es, ∀ w1, S w1 → Calls Tryz.prog 61 #[eval_ e, .pointer (some q)] w1 fun r w' => r = .returned (.bool (f e)) ∧ Below w1.heap.size w1 w') :
    Calls Tryz.prog 60 #[.slice A n c, .func (.func 61) #[] #[.pointer (some q)]] w fun r w' => (∃ i : Int, r = .returned (.int .i64 i) ∧ IdxF es f i) ∧ Below w.heap.size w w' := by
  have hlen0 := hl.1
  rw [ents_length] at hlen0
  have l1 : n ≤ es.length := by omega
  have l2 : es.length ≤ n := by omega
  have HL := Lib.hid hl
  have HS := Lib.hid hS
  have HON := Lib.hid hon
  have HF := Lib.hid hF
  clear hl hlen0 hS hon hF
  go_enter Tryz.func60, Tryz.ntmps60
  go_wp2_with fail
  go_loopw [8] (fun i wr => ∃ k : Nat, k ≤ n ∧ i = .int .i64 k ∧ (∀ x ∈ es.take k, f x = false) ∧ S wr ∧ Below w.heap.size w wr) (fun i _ => n - (intOf i).toNat)
  case atStart => exact ⟨0, by omega, rfl, by simp, HS.out, Below.refl _ _⟩
  case round =>
    obtain ⟨k, hk, rfl, hno, hS, hbw⟩ := hrel
    have HNO := Lib.hid hno
    have HBW := Lib.hid hbw
    have HSW := Lib.hid hS
    clear hno hbw hS
    by_cases hlt : k < n
    · obtain ⟨ad, x, e1, hbk, hx, d0, d1, d2, d3, d4, d5⟩ := eat (HL.out.on HBW.out) (k := k) (by omega)
      have X := fun w => ix22 (c := c) e1 hlt w
      have HT := Lib.hid (take_succ_of hx)
      have HM := Lib.hid (List.mem_of_getElem? hx)
      have HX := Lib.hid hx
      clear hx e1
      go_wp2_with fail
      with_reducible refine (HF.out x HM.out _ HSW.out).mono ?_
      rintro _ w2 ⟨rfl, hb2⟩
      have HS2 := Lib.hid (HON.out _ _ HSW.out hb2)
      have HB2 := Lib.hid (below_trans' HBW.out hb2)
      clear hb2 d0 d1 d2 d3 d4 d5 X
      rcases Bool.eq_false_or_eq_true (f x) with hf | hf
      · have HFX := Lib.hid hf
        rw [hf]
        clear hf
        go_wp2_with fail
        go_ret
        exact ⟨⟨k, rfl, .inr ⟨k, rfl, x, HX.out, HFX.out, HNO.out⟩⟩, HB2.out⟩
      · have HN2 : Hid (∀ y ∈ es.take (k + 1), f y = false) := Lib.hid fun y hy => by
          rw [HT.out] at hy
          rcases List.mem_append.1 hy with hy | hy
          · exact HNO.out y hy
          · rw [List.mem_singleton.1 hy]; exact hf
        rw [hf]
        clear hf
        go_wp2_with fail
        go_roundw
        case rel => exact ⟨k + 1, by omega, by go_num, HN2.out, HS2.out, HB2.out⟩
        case measure => simp [intOf]; omega
    · have HN3 := Lib.hid (show ∀ e ∈ es, f e = false by have := HNO.out; rwa [List.take_of_length_le (by omega)] at this)
      go_wp2_with fail
      go_ret
      exact ⟨⟨-1, rfl, .inl ⟨rfl, HN3.out⟩⟩, HBW.out⟩
theorem cmpK_zero (x y : Ent) : cmpK x y = 0 ↔ x.1 = y.1 ∧ x.2.1 = y.2.1 := by
  unfold cmpK or0 cmpI
  by_cases h1 : x.1 < y.1
  · simp [h1]; omega
  · by_cases h2 : y.1 < x.1
    · simp [h1, h2]; omega
    · have h3 : x.1 = y.1 := by omega
      by_cases h4 : x.2.1 < y.2.1
      · simp [h3, h4]; omega
      · by_cases h5 : y.2.1 < x.2.1
        · simp [h3, h4, h5]; omega
        · simp [h3, h4, h5]; omega
def sameKey (x y : Ent) : Bool := decide (x.1 = y.1 ∧ x.2.1 = y.2.1)
theorem splitF_any (q : Nat) (x y : Ent) (w : World) (hb : Box w q #[.int .i64 x.1, .int .i64 x.2.1, .int .i64 x.2.2.1.1, .int .i64 x.2.2.1.2.1, .int .i64 x.2.2.1.2.2, .string x.2.2.2]) :
    Calls Tryz.prog 61 #[eval_ y, .pointer (some ⟨q, 0, none⟩)] w fun r w' => r = .returned (.bool (sameKey x y)) ∧ Below w.heap.size w w' := by
  have hq := hb.1
  go_enter Tryz.func61, Tryz.ntmps61
  dsimp only [eval_]
  have cx := fun o => (hb.alloc (.cells #[.int .i64 y.1, .int .i64 y.2.1, .int .i64 y.2.2.1.1, .int .i64 y.2.2.1.2.1, .int .i64 y.2.2.1.2.2, .string y.2.2.2] o)).at
  have cy := fun o => (Box.new w #[.int .i64 y.1, .int .i64 y.2.1, .int .i64 y.2.2.1.1, .int .i64 y.2.2.1.2.1, .int .i64 y.2.2.1.2.2, .string y.2.2.2] o).at
  go_wp2_with fail
  with_reducible refine (cmpK_any x y _).mono ?_
  rintro _ w2 ⟨rfl, hb2⟩
  have HB := Lib.hid (below1 _ hb2)
  have HZ := Lib.hid (cmpK_zero x y)
  clear hb2 cx cy
  go_wp2_with fail
  go_ret
  refine ⟨ret_bool ?_, HB.out⟩
  unfold sameKey
  rw [Bool.eq_iff_iff, beq_iff_eq, decide_eq_true_eq]
  exact HZ.out
end Go.Proofs.YtnlhllleipemlaaGreatDoor

namespace Go.Proofs.YtnlhllleipemlaaGreatDoor
open Go.RowKit Go.Sort

/-- Two rows of the call's own, apart from each other. -/
structure Two (w0 : World) (l1 l2 : List Ent) (w : World) (v1 v2 : Value) : Prop where
  one : Held w0 l1 w v1
  two : Held w0 l2 w v2
  apart : ∀ k, v1.ownBlock = some k → v2.ownBlock ≠ some k
section
variable {w0 w w' : World} {l1 l2 : List Ent} {v1 v2 : Value}
theorem Two.nil (hb : Below w0.heap.size w0 w) : Two w0 [] [] w (.slice none 0 0) (.slice none 0 0) := ⟨Held.nil hb, Held.nil hb, fun _ h => by cases h⟩
theorem Two.on (h : Two w0 l1 l2 w v1 v2) (hb : Below w.heap.size w w') : Two w0 l1 l2 w' v1 v2 := ⟨h.one.on hb, h.two.on hb, h.apart⟩
theorem Two.bel (h : Two w0 l1 l2 w v1 v2) : Below w0.heap.size w0 w := h.one.bel
theorem Two.swap (h : Two w0 l1 l2 w v1 v2) : Two w0 l2 l1 w v2 v1 := ⟨h.two, h.one, fun k h1 h2 => h.apart k h2 h1⟩
end
theorem box_reads {w : World} {b : Nat} {e : Ent} (h : Box w b (ecells e).toArray) : Reads w w.heap.size 6 (some ⟨b, 0, none⟩) 1 (ecells e) := by
  refine ⟨rfl, fun _ => ⟨_, rfl, h.1, fun j u hj => ?_⟩⟩
  have e1 : (⟨b, 0, none⟩ : Addr).add j = ⟨b, j, none⟩ := by
    unfold Addr.add
    split
    · rename_i h0; rw [h0]
    · simp
  rw [e1, h.at]
  simpa using hj
set_option maxRecDepth 4000 in
/-- Append of one entry onto the first of two rows. -/
theorem wpList_push2 {ops : Array Oper} {rest : List Oper} {o : Oper} {a : Act} {Q : Exit → Act → World → Prop} (hgd : o.guard = none) (s x : Operand)
    (ho : o.op = .call { callee := .builtin .append, args := #[s, x], argTypes := #[23, 23] })
    (w0 w : World) (v1 v2 : Value) (l1 l2 : List Ent) (e : Ent) (b : Nat) (hs : a.eval s = v1) (h2 : Two w0 l1 l2 w v1 v2)
    (hx : a.eval x = .slice (some ⟨b, 0, none⟩) 1 1) (hbox : Box w b (ecells e).toArray) (hlen : l1.length < 1000000000)
    (h : ∀ v' w', Two w0 (l1 ++ [e]) l2 w' v' v2 → wpList Tryz.prog ops Q rest (a.put o.dst v') w') :
    wpList Tryz.prog ops Q (o :: rest) a w := by
  obtain ⟨A, c, rfl, ho1⟩ := h2.one
  obtain ⟨A2, c2, hv2, ho2⟩ := h2.two
  refine wpList_pushXn hgd s x 23 48 ho Tryz.underlying23 info53b rfl (by omega) (by omega) w0.heap.size w A l1.length c (ents l1) (some ⟨b, 0, none⟩) 1 1 (ecells e) hs ho1.row ho1.bel.size hx (box_reads hbox) (fun h => by cases h) (ecells_one e) (by omega) ?_
  intro A' c' w' r1 g1 hA
  refine h _ w' ⟨⟨A', c', by rw [len_snoc], ?_⟩, ⟨A2, c2, hv2, ?_, ?_⟩, fun k hk hk2 => ?_⟩
  · rw [len_snoc, ents_snoc]
    exact ⟨r1, ho1.bel.grown g1 ho1.bel.size fun k hk => (ho1.row.lt k hk).1⟩
  · refine ho2.row.kept (row := (Value.slice A l1.length c).ownBlock) g1 ?_
    cases hv : (Value.slice A2 l2.length c2).ownBlock with
    | none => exact .inl rfl
    | some k => exact .inr fun hk => h2.apart k hk.symm (by rw [hv2, hv])
  · exact ho1.bel.grown g1 ho1.bel.size fun k hk => (ho1.row.lt k hk).1
  · have l2 := (ho2.row.lt k (hv2 ▸ hk2)).2
    rcases hA with rfl | hA
    · exact h2.apart k (by cases A' <;> exact hk) hk2
    · cases A' with
      | none => cases hk
      | some p =>
        have := hA p rfl
        have e1 : p.block = k := Option.some.inj hk
        omega
theorem results_tmp4 {fn : Func} {t u v x : Tmp} (h : fn.results = #[.tmp t, .tmp u, .tmp v, .tmp x]) (tmps : Array Value) (P : Program) (w : World) :
    (results fn tmps).run P w = .ok (.tuple #[tmps.getD t undef, tmps.getD u undef, tmps.getD v undef, tmps.getD x undef]) w := by
  simp [results, h]
theorem splitIdx_any (q : Nat) (x : Ent) (A : Option Addr) (n c : Nat) (es : List Ent) (w : World) (hb : Box w q #[.int .i64 x.1, .int .i64 x.2.1, .int .i64 x.2.2.1.1, .int .i64 x.2.2.1.2.1, .int .i64 x.2.2.1.2.2, .string x.2.2.2]) (hl : Reads w w.heap.size 6 A n (ents es)) (hn : n ≤ 1000000) :
    Calls Tryz.prog 60 #[.slice A n c, .func (.func 61) #[] #[.pointer (some ⟨q, 0, none⟩)]] w fun r w' => (∃ i : Int, r = .returned (.int .i64 i) ∧ IdxF es (sameKey x) i) ∧ Below w.heap.size w w' ∧ Box w' q #[.int .i64 x.1, .int .i64 x.2.1, .int .i64 x.2.2.1.1, .int .i64 x.2.2.1.2.1, .int .i64 x.2.2.1.2.2, .string x.2.2.2] := by
  refine (indexFunc68_any ⟨q, 0, none⟩ (sameKey x) (fun W => Box W q #[.int .i64 x.1, .int .i64 x.2.1, .int .i64 x.2.2.1.1, .int .i64 x.2.2.1.2.1, .int .i64 x.2.2.1.2.2, .string x.2.2.2]) A n c es w hl hn hb (fun w1 w2 h hb => h.below hb) (fun e _ w1 h => splitF_any q x e w1 h)).mono ?_
  rintro r w' ⟨h1, h2⟩
  exact ⟨h1, h2, hb.below h2⟩
def spl (a b l : List Ent) : List Ent := if val2 a b = 0 then l else []
def RetS (a b : List Ent) (w : World) (r : Ending) (w' : World) : Prop :=
  ∃ v1 v2 v3, r = .returned (.tuple #[v1, v2, v3, .int .i64 (val2 a b)]) ∧ Held w (spl a b (wo a b true)) w' v1 ∧ Held w (spl a b (wo a b false)) w' v2 ∧ Held w (spl a b (wo b a false)) w' v3
theorem RetS.bad {a b : List Ent} {w w' : World} {e : Int} (h : val2 a b ≠ 0) (he : e = val2 a b) (hb : Below w.heap.size w w') : RetS a b w (.returned (.tuple #[.slice none 0 0, .slice none 0 0, .slice none 0 0, .int .i64 e])) w' := by
  refine ⟨_, _, _, by rw [he], ?_⟩
  unfold spl
  rw [if_neg h, if_neg h, if_neg h]
  exact ⟨Held.nil hb, Held.nil hb, Held.nil hb⟩
theorem RetS.good {a b : List Ent} {w w' : World} {v1 v2 v3 : Value} (h : val2 a b = 0) (h2 : Two w (wo a b true) (wo a b false) w' v1 v2) (h3 : Held w (wo b a false) w' v3) : RetS a b w (.returned (.tuple #[v1, v2, v3, .int .i64 0])) w' := by
  refine ⟨_, _, _, by rw [h], ?_⟩
  unfold spl
  rw [if_pos h, if_pos h, if_pos h]
  exact ⟨h2.one, h2.two, h3⟩
theorem wo_in {es fs : List Ent} {k : Nat} {e : Ent} (hT : es.take (k + 1) = es.take k ++ [e]) (he : e ∈ fs) : wo (es.take (k + 1)) fs true = wo (es.take k) fs true ++ [e] ∧ wo (es.take (k + 1)) fs false = wo (es.take k) fs false :=
  ⟨fl_yes _ hT (by simp [he]), fl_no _ hT (by simp [he])⟩
theorem wo_out {es fs : List Ent} {k : Nat} {e : Ent} (hT : es.take (k + 1) = es.take k ++ [e]) (he : e ∉ fs) : wo (es.take (k + 1)) fs false = wo (es.take k) fs false ++ [e] ∧ wo (es.take (k + 1)) fs true = wo (es.take k) fs true :=
  ⟨fl_yes _ hT (by simp [he]), fl_no _ hT (by simp [he])⟩
theorem noP2_snoc {es fs : List Ent} {k : Nat} {e : Ent} (hT : es.take (k + 1) = es.take k ++ [e]) (h : noP2 (es.take k) fs) (h1 : noP1 e fs) : noP2 (es.take (k + 1)) fs := fun f hf => by
  rw [hT] at hf
  rcases List.mem_append.1 hf with hf | hf
  · exact h f hf
  · rw [List.mem_singleton.1 hf]; exact h1
theorem Held.up {w0 w1 w : World} {l : List Ent} {v : Value} (h : Held w1 l w v) (hb : Below w0.heap.size w0 w1) : Held w0 l w v := by
  obtain ⟨A, c, hv, ho⟩ := h
  exact ⟨A, c, hv, row_mono ho.row hb.size, below_trans' hb ho.bel⟩
theorem Held.coll {w0 w : World} {es : List Ent} {f : Ent → Bool} {k : Nat} {v : Value} (h : Coll w0 es f k w v) (hk : es.length ≤ k) : Held w0 (es.filter f) w v := by
  obtain ⟨B, d, hv, hr, hb⟩ := h.all hk
  exact ⟨B, d, hv, hr, hb⟩
set_option maxRecDepth 100000 in
set_option maxHeartbeats 4000000 in
theorem split_any (A B : Option Addr) (n m c d : Nat) (es fs : List Ent) (w : World) (hl : Reads w w.heap.size 6 A n (ents es)) (hm : Reads w w.heap.size 6 B m (ents fs)) (hn : n ≤ 1000000) (hn2 : m ≤ 1000000) (ht : shortT es) (ht2 : shortT fs) :
    Calls Tryz.prog 33 #[.slice A n c, .slice B m d] w (RetS es fs w) := by
  have hlen0 := hl.1
  rw [ents_length] at hlen0
  have hlen1 := hm.1
  rw [ents_length] at hlen1
  have l1 : n ≤ es.length := by omega
  have l2 : es.length ≤ n := by omega
  have l3 : m ≤ fs.length := by omega
  have l4 : fs.length ≤ m := by omega
  have HL := Lib.hid hl
  have HM := Lib.hid hm
  have HT := Lib.hid ht
  have HT2 := Lib.hid ht2
  clear hl hm hlen0 hlen1 ht ht2
  go_enter Tryz.func33, Tryz.ntmps33
  go_wp2_with fail
  with_reducible refine (validate_any A n c es _ HL.out hn HT.out).mono ?_
  rintro _ w2 ⟨rfl, hb2⟩
  have HW2 := Lib.hid hb2
  clear hb2
  by_cases hv : val es = 0
  case neg =>
    have HV := Lib.hid (val2_bad1 (b := fs) hv)
    have HV2 : Hid (val2 es fs ≠ 0) := Lib.hid (by rw [HV.out]; exact hv)
    have g := neB hv
    clear hv
    go_wp2_with fail
    ((try simp only [Exit.inBlock, Exit.then]); refine bodyPost_ret (results_tmp4 rfl _ _ _) rfl ?_)
    exact RetS.bad HV2.out HV.out.symm HW2.out
  have HV := Lib.hid hv
  have g := neBf hv
  clear hv
  go_wp2_with fail
  with_reducible refine (validate_any B m d fs _ (HM.out.on HW2.out) hn2 HT2.out).mono ?_
  rintro _ w3 ⟨rfl, hb3⟩
  have HW3 := Lib.hid (below_trans' HW2.out hb3)
  clear hb3
  by_cases hv2 : val fs = 0
  case neg =>
    have HV2 := Lib.hid (val2_bad2 HV.out hv2)
    have HV3 : Hid (val2 es fs ≠ 0) := Lib.hid (by rw [HV2.out]; exact hv2)
    have g2 := neB hv2
    clear hv2
    go_wp2_with fail
    ((try simp only [Exit.inBlock, Exit.then]); refine bodyPost_ret (results_tmp4 rfl _ _ _) rfl ?_)
    exact RetS.bad HV3.out HV2.out.symm HW3.out
  have HV2 := Lib.hid hv2
  have g2 := neBf hv2
  clear hv2
  go_wp2_with fail
  go_loopw [4, 5, 6, 27] (fun v1 v2 v6 i wr => ∃ k : Nat, k ≤ n ∧ i = .int .i64 k ∧ v6 = .slice none 0 0 ∧ noP2 (es.take k) fs ∧ Two w (wo (es.take k) fs true) (wo (es.take k) fs false) wr v1 v2) (fun _ _ _ i _ => n - (intOf i).toNat)
  case atStart => exact ⟨0, by omega, rfl, rfl, fun e he => by simp at he, Two.nil HW3.out⟩
  case round =>
    clear HW3 HW2
    obtain ⟨k, hk, rfl, rfl, hno, htw⟩ := hrel
    have HNO := Lib.hid hno
    have HTW := Lib.hid htw
    clear hno htw
    by_cases hlt : k < n
    · obtain ⟨ad, x, e1, hbk, hx, d0, d1, d2, d3, d4, d5⟩ := eat (HL.out.on HTW.out.bel) (k := k) (by omega)
      have X := fun w => ix22 (c := c) e1 hlt w
      have HTK := Lib.hid (take_succ_of hx)
      have HXM := Lib.hid (List.mem_of_getElem? hx)
      have hle1 : (wo (es.take k) fs true).length < 1000000000 := by have := wo_le (es.take k) fs true; rw [List.length_take] at this; omega
      have hle2 : (wo (es.take k) fs false).length < 1000000000 := by have := wo_le (es.take k) fs false; rw [List.length_take] at this; omega
      clear hx e1
      go_wp2_with fail
      with_reducible refine (splitIdx_any _ x B m d fs _ (Box.new _ _ _) (HM.out.on (below_trans' HTW.out.bel (belowA _ _))) hn2).mono ?_
      rintro _ w4 ⟨⟨i, rfl, hi⟩, hb4, bx⟩
      have HT4 := Lib.hid (HTW.out.on (below1 _ hb4))
      generalize wr.heap.size = q at bx ⊢
      clear hb4 d0 d1 d2 d3 d4 d5 X HTW hbk
      have cx := bx.at
      rcases hi with ⟨rfl, hnone⟩ | ⟨j, rfl, y, hy, hyx, -⟩
      · have HXN : Hid (x ∉ fs) := Lib.hid fun h => by
          have := hnone x h
          simp [sameKey] at this
        have HW := Lib.hid (wo_out HTK.out HXN.out)
        have HN2 : Hid (noP2 (es.take (k + 1)) fs) := Lib.hid (noP2_snoc HTK.out HNO.out fun f hf hp => by
          have := hnone f hf
          simp [sameKey, hp.1, hp.2.1] at this)
        clear hnone
        go_wp2_with (at_builtin; refine wpList_push2 rfl _ _ rfl w _ _ _ _ _ x _ rfl (HT4.out.swap.on (belowA _ _)) rfl (Box.new _ _ _) hle2 ?_; intro v' w' hown'; have hown5 := Lib.hid hown'; clear hown')
        clear cx bx
        go_roundw
        case rel => exact ⟨k + 1, by omega, by go_num, rfl, HN2.out, by rw [HW.out.1, HW.out.2]; exact hown5.out.swap⟩
        case measure => simp [intOf]; omega
      · have HYM := Lib.hid (List.mem_of_getElem? hy)
        have hjm : j < m := by
          rcases Nat.lt_or_ge j fs.length with h | h
          · omega
          · rw [List.getElem?_eq_none h] at hy; cases hy
        have HYX : Hid (x.1 = y.1 ∧ x.2.1 = y.2.1) := Lib.hid (by simpa [sameKey] using hyx)
        clear hyx
        have hj0 : ¬ (j : Int) < 0 := by omega
        obtain ⟨ad', y', e1', hbk', hy', q0, q1, q2, q3, q4, q5⟩ := eat (HM.out.on HT4.out.bel) (k := j) (by omega)
        obtain rfl : y = y' := Option.some.inj (hy.symm.trans hy')
        have Y := fun w => ix22 (n := m) (c := d) e1' hjm w
        have g3 := eqg53 .neq
        have g4 := neq53 y x
        clear hy hy' e1' hbk'
        by_cases hyx : y = x
        · have HW := Lib.hid (wo_in HTK.out (hyx ▸ HYM.out))
          have HN2 : Hid (noP2 (es.take (k + 1)) fs) := Lib.hid (noP2_snoc HTK.out HNO.out fun f hf hp => hp.2.2 (by
            subst hyx
            exact sorted_inj (val_zero.1 HV2.out).sorted HYM.out hf hp.1 hp.2.1))
          rw [eqN_iff.2 hyx] at g4
          clear hyx
          go_wp2_with fail
          go_quiet (fail)
          go_wp2_with (at_builtin; refine wpList_push2 rfl _ _ rfl w _ _ _ _ _ x _ rfl (HT4.out.on (below_drewN' (belowA _ _) _)) rfl (Box.new _ _ _) hle1 ?_; intro v' w' hown'; have hown5 := Lib.hid hown'; clear hown')
          clear cx bx
          go_roundw
          case rel => exact ⟨k + 1, by omega, by go_num, rfl, HN2.out, by rw [HW.out.1, HW.out.2]; exact hown5.out⟩
          case measure => simp [intOf]; omega
        · have HB := Lib.hid (val2_part HV.out HV2.out HXM.out HYM.out ⟨HYX.out.1, HYX.out.2, fun h => hyx h.symm⟩)
          rw [eqN_not.2 hyx] at g4
          clear hyx
          go_wp2_with fail
          go_quiet (fail)
          go_wp2_with fail
          ((try simp only [Exit.inBlock, Exit.then]); refine bodyPost_ret (results_tmp4 rfl _ _ _) rfl ?_)
          exact RetS.bad (by rw [HB.out]; decide) HB.out.symm (below_drewN' HT4.out.bel _)
    · have HF := Lib.hid (val2_ok HV.out HV2.out (by have := HNO.out; rwa [List.take_of_length_le (by omega)] at this))
      have htw := HTW.out
      rw [List.take_of_length_le (by omega)] at htw
      have HTW2 := Lib.hid htw
      clear htw HTW HNO
      go_wp2_with fail
      go_loopw [6, 55] (fun v3 i wr2 => ∃ j : Nat, j ≤ m ∧ i = .int .i64 j ∧ Coll wr fs (fun e => decide (e ∈ es) == false) j wr2 v3) (fun _ i _ => m - (intOf i).toNat)
      case atStart => exact ⟨0, by omega, rfl, Coll.nil⟩
      case round =>
        obtain ⟨j, hj, rfl, hown⟩ := hrel
        have HOWN := Lib.hid hown
        clear hown
        by_cases hltj : j < m
        · obtain ⟨ad, y, e1, hbk, hy, d0, d1, d2, d3, d4, d5⟩ := eat (HM.out.on (below_trans' HTW2.out.bel HOWN.out.bel)) (k := j) (by omega)
          have X := fun w => ix22 (c := d) e1 hltj w
          have HTJ := Lib.hid (take_succ_of hy)
          have hle := fl_le fs j (fun e => decide (e ∈ es) == false)
          have hlen : ((fs.take j).filter (fun e => decide (e ∈ es) == false)).length < 1000000000 := by omega
          have HLW := Lib.hid (HL.out.on (below_trans' HTW2.out.bel HOWN.out.bel))
          clear hy e1 hle
          go_wp2_with fail
          with_reducible refine (contains_any A n c es y _ (HLW.out.on (belowA _ _)) hn).mono ?_
          rintro _ w5 ⟨rfl, hb5⟩
          have HOWN2 := Lib.hid (HOWN.out.on (below1 _ hb5))
          have cx := ((Box.new _ _ _).below hb5).at
          clear hb5 d0 d1 d2 d3 d4 d5 X hbk HLW
          by_cases hq : y ∈ es
          · have HF2 : Hid ((fun e : Ent => decide (e ∈ es) == false) y = false) := Lib.hid (by simp [hq])
            rw [decide_eq_true hq]
            clear hq
            go_wp2_with fail
            clear cx
            go_roundw
            case rel => exact ⟨j + 1, by omega, by go_num, Coll.no HTJ.out HF2.out HOWN2.out⟩
            case measure => simp [intOf]; omega
          · have HF2 : Hid ((fun e : Ent => decide (e ∈ es) == false) y = true) := Lib.hid (by simp [hq])
            rw [decide_eq_false hq]
            clear hq
            go_wp2_with (at_builtin; refine wpList_pushX rfl _ _ 23 48 rfl Tryz.underlying23 info53b rfl (by omega) (by omega) _ _ _ _ _ (ecells y) _ rfl (HOWN2.out.own.on (belowA _ _)) rfl (Box.new _ _ _) rfl (ecells_one y) hlen ?_; intro v' w' hown'; have hown5 := Lib.hid hown'; clear hown')
            clear cx
            go_roundw
            case rel => exact ⟨j + 1, by omega, by go_num, Coll.yes HTJ.out HF2.out hown5.out⟩
            case measure => simp [intOf]; omega
        · have HG := Lib.hid (RetS.good HF.out (HTW2.out.on HOWN.out.bel) ((Held.coll HOWN.out (by omega)).up HTW2.out.bel))
          go_wp2_with fail
          ((try simp only [Exit.inBlock, Exit.then]); refine bodyPost_ret (results_tmp4 rfl _ _ _) rfl ?_)
          exact HG.out
end Go.Proofs.YtnlhllleipemlaaGreatDoor

namespace Go.Proofs.YtnlhllleipemlaaGreatDoor
open Go.RowKit Go.Sort

theorem mergeR_len {a b : List Ent} (h : val2 a b = 0) : (mergeR a b).length = a.length + (wo b a false).length := by
  obtain ⟨ha, hb, hn⟩ := val2_zero.1 h
  have nd : (a ++ wo b a false).Nodup := by
    rw [List.nodup_append]
    refine ⟨sorted_nodup ha.sorted, (sorted_nodup hb.sorted).filter _, fun x hx y hy e => ?_⟩
    subst e
    exact (mem_wo.1 hy).2 hx
  have : (mergeR a b).Perm (a ++ wo b a false) := (List.perm_ext_iff_of_nodup (sorted_nodup (mergeR_sorted ha hb hn)) nd).2 fun e => by
    rw [mem_mergeR ha hb, List.mem_append, mem_wo]
    by_cases h : e ∈ a <;> simp [h]
  rw [this.length_eq, List.length_append]
theorem Held.reads {w0 w : World} {l : List Ent} {A : Option Addr} {n c : Nat} (h : OwnX 48 6 w0 w (.slice A n c) n (ents l)) : Reads w w.heap.size 6 A n (ents l) := Reads.of_own h.row
set_option maxRecDepth 100000 in
theorem merge_any (A B : Option Addr) (n m c d : Nat) (es fs : List Ent) (w : World) (hl : Reads w w.heap.size 6 A n (ents es)) (hm : Reads w w.heap.size 6 B m (ents fs)) (hn : n ≤ 1000000) (hn2 : m ≤ 1000000) (ht : shortT es) (ht2 : shortT fs) :
    Calls Tryz.prog 14 #[.slice A n c, .slice B m d] w (RetE (mrgL es fs) (mrgE es fs) w) := by
  have hlen0 := hl.1
  rw [ents_length] at hlen0
  have hlen1 := hm.1
  rw [ents_length] at hlen1
  have l1 : n ≤ es.length := by omega
  have l2 : es.length ≤ n := by omega
  have l4 : fs.length ≤ m := by omega
  have HL := Lib.hid hl
  have HM := Lib.hid hm
  have HT := Lib.hid ht
  have HT2 := Lib.hid ht2
  clear hl hm hlen0 hlen1 ht ht2
  go_enter Tryz.func14, Tryz.ntmps14
  go_wp2_with fail
  with_reducible refine (split_any A B n m c d es fs _ HL.out HM.out hn hn2 HT.out HT2.out).mono ?_
  rintro _ w2 ⟨v1, v2, v3, rfl, h1, -, h3⟩
  have HW2 := Lib.hid h1.bel
  have H3 := Lib.hid h3
  clear h1 h3
  by_cases hv : val2 es fs = 0
  case neg =>
    have HV := Lib.hid (mrg_bad hv)
    have g := neB hv
    clear hv
    go_wp2_with fail
    go_ret2
    rw [HV.out.2]
    exact RetE.nil HV.out.1.symm HW2.out
  have HV := Lib.hid hv
  have g := neBf hv
  have HSP : Hid (spl es fs (wo fs es false) = wo fs es false) := Lib.hid (if_pos hv)
  have h3 := H3.out
  rw [HSP.out] at h3
  obtain ⟨A3, c3, rfl, ho3⟩ := h3
  have HO3 := Lib.hid ho3
  have HLN := Lib.hid (mergeR_len hv)
  have hw3 := wo_le fs es false
  generalize hk : (wo fs es false).length = k at HO3 HLN hw3 ⊢
  have HK := Lib.hid hk
  clear hv ho3 H3 hk
  go_wp2_with fail
  with_reducible refine (clone_any A n c es _ (HL.out.on HW2.out) hn).mono ?_
  rintro _ w4 ⟨B4, d4, rfl, hr4, hb4⟩
  have HR4 := Lib.hid hr4
  have HO4 := Lib.hid (HO3.out.on hb4)
  have HW4 := Lib.hid (below_trans' HW2.out hb4)
  have hq4 : w2.heap.size ≤ w4.heap.size := hb4.size
  have hlen : n + k ≤ 1000000000 := by omega
  clear hr4 hb4
  by_cases h60 : (60 : Int) < (n : Int) + (k : Int)
  · have HF := Lib.hid (mrg_large HV.out (by rw [HLN.out]; omega))
    go_wp2_with (at_builtin; refine wpList_pushXm rfl _ _ 23 48 rfl Tryz.underlying23 info53b rfl (by omega) (by omega) w2.heap.size w4 B4 n d4 (ents es) A3 k c3 (ents (wo fs es false)) rfl HR4.out hq4 rfl (Reads.of_own HO4.out.row) (ents_one _) hlen ?_; intro A5 c5 w5 hr5 hg5 _; rw [← ents_append] at hr5; have HR5 := Lib.hid hr5; have HW5 := Lib.hid (HW4.out.grown hg5 HW4.out.size fun k hk => Nat.le_trans HW2.out.size (HR4.out.lt k hk).1); clear hr5 hg5)
    go_ret2
    rw [HF.out.2]
    exact RetE.nil HF.out.1.symm HW5.out
  · have HF := Lib.hid (mrg_ok HV.out (by rw [HLN.out]; omega))
    go_wp2_with (at_builtin; refine wpList_pushXm rfl _ _ 23 48 rfl Tryz.underlying23 info53b rfl (by omega) (by omega) w2.heap.size w4 B4 n d4 (ents es) A3 k c3 (ents (wo fs es false)) rfl HR4.out hq4 rfl (Reads.of_own HO4.out.row) (ents_one _) hlen ?_; intro A5 c5 w5 hr5 hg5 _; rw [← ents_append] at hr5; have HR5 := Lib.hid hr5; have HW5 := Lib.hid (HW4.out.grown hg5 HW4.out.size fun k hk => Nat.le_trans HW2.out.size (HR4.out.lt k hk).1); clear hr5 hg5)
    with_reducible refine (sort_any (bl := w2.heap.size) A5 (n + k) c5 (es ++ wo fs es false) _ HR5.out (by omega)).mono ?_
    rintro _ w9 ⟨rfl, es', hp, hsort, hr9, hg9⟩
    obtain ⟨ha, hb, hnp⟩ := val2_zero.1 HV.out
    have HSRT := Lib.hid (merge_sort ha hb hnp hp hsort)
    have HR9 := Lib.hid hr9
    have HB9 := Lib.hid (HW5.out.grown hg9 HW5.out.size fun k hk => Nat.le_trans HW2.out.size (HR5.out.lt k hk).1)
    clear hp hsort hr9 hg9 ha hb hnp
    go_wp2_with fail
    go_ret2
    rw [HF.out.1, HF.out.2]
    refine ⟨A5, c5, ?_, ?_, HB9.out⟩
    · rw [HLN.out, show es.length = n by omega]; rfl
    · have := row_mono HR9.out HW2.out.size
      rw [HSRT.out] at this
      rwa [HLN.out, show es.length = n by omega]
end Go.Proofs.YtnlhllleipemlaaGreatDoor

namespace Go.Proofs.YtnlhllleipemlaaGreatDoor
open Go.RowKit Go.Sort

abbrev kw : ByteArray := ⟨#[119, 97, 115, 104]⟩
abbrev kc : ByteArray := ⟨#[99, 117, 116, 32, 50]⟩
abbrev kb : ByteArray := ⟨#[98, 108, 101, 97, 99, 104]⟩
def k1 : Ent := (0, 1, (0, 0, 0), kw)
def k2 : Ent := (1, 1, (1, 0, 0), kc)
def k3 : Ent := (0, 2, (1, 0, 0), kb)
theorem kf1 : addE [] 0 kw = 0 := by decide +kernel
theorem kf2 : addL' [] 0 kw = [k1] := by decide +kernel
theorem kf3 : addE [k1] 1 kc = 0 := by decide +kernel
theorem kf4 : addL' [k1] 1 kc = [k1, k2] := by decide +kernel
theorem kf5 : addE [k1] 0 kb = 0 := by decide +kernel
theorem kf6 : addL' [k1] 0 kb = [k1, k3] := by decide +kernel
theorem kf7 : mrgE [k1, k2] [k1, k3] = 0 := by decide +kernel
theorem kf8 : mrgL [k1, k2] [k1, k3] = [k1, k3, k2] := by decide +kernel
theorem kf9 : val [k1, k3, k2] = 0 := by decide +kernel
theorem kf10 : indN [k1, k3, k2] = 1 := by decide +kernel
theorem ks1 : shortT [k1] := by unfold shortT; decide +kernel
theorem ks2 : shortT [k1, k2] := by unfold shortT; decide +kernel
theorem ks3 : shortT [k1, k3] := by unfold shortT; decide +kernel
theorem ks4 : shortT [k1, k3, k2] := by unfold shortT; decide +kernel
/-- A list of entries in the call's own memory, and no error. -/
def RetK (n : Nat) (es : List Ent) (w : World) (r : Ending) (w' : World) : Prop := ∃ A c, r = .returned (.tuple #[.slice A n c, .int .i64 0]) ∧ Reads w' w'.heap.size 6 A n (ents es) ∧ n ≤ c ∧ Below w.heap.size w w'
theorem RetK.of {n : Nat} {es : List Ent} {w : World} (hn : es.length = n) : ∀ r w', RetE es 0 w r w' → RetK n es w r w' := by
  rintro _ w' ⟨A, c, rfl, hr, hb⟩
  subst hn
  exact ⟨A, c, rfl, Reads.of_own hr, (row_cap hr).1, hb⟩
theorem kAdd1 (w : World) : Calls Tryz.prog 15 #[.slice none 0 0, .int .i64 0, .string kw] w (RetK 1 [k1] w) := by
  have := add_any none 0 0 [] 0 kw w Reads.nil (by omega) (fun e he => by cases he) (by decide)
  rw [kf1, kf2] at this
  exact this.mono (RetK.of rfl)
theorem kAdd2 (A : Option Addr) (c : Nat) (w : World) (hl : Reads w w.heap.size 6 A 1 (ents [k1])) : Calls Tryz.prog 15 #[.slice A 1 c, .int .i64 1, .string kc] w (RetK 2 [k1, k2] w) := by
  have := add_any A 1 c [k1] 1 kc w hl (by omega) ks1 (by decide)
  rw [kf3, kf4] at this
  exact this.mono (RetK.of rfl)
theorem kAdd3 (A : Option Addr) (c : Nat) (w : World) (hl : Reads w w.heap.size 6 A 1 (ents [k1])) : Calls Tryz.prog 15 #[.slice A 1 c, .int .i64 0, .string kb] w (RetK 2 [k1, k3] w) := by
  have := add_any A 1 c [k1] 0 kb w hl (by omega) ks1 (by decide)
  rw [kf5, kf6] at this
  exact this.mono (RetK.of rfl)
theorem kMrg (A B : Option Addr) (c d : Nat) (w : World) (hl : Reads w w.heap.size 6 A 2 (ents [k1, k2])) (hm : Reads w w.heap.size 6 B 2 (ents [k1, k3])) : Calls Tryz.prog 14 #[.slice A 2 c, .slice B 2 d] w (RetK 3 [k1, k3, k2] w) := by
  have := merge_any A B 2 2 c d [k1, k2] [k1, k3] w hl hm (by omega) (by omega) ks2 ks3
  rw [kf7, kf8] at this
  exact this.mono (RetK.of rfl)
theorem kInd (A : Option Addr) (c : Nat) (w : World) (hl : Reads w w.heap.size 6 A 3 (ents [k1, k3, k2])) (hc : 3 ≤ c) : Calls Tryz.prog 19 #[.slice A 3 c] w fun r w' => r = .returned (.tuple #[.int .i64 1, .int .i64 0]) ∧ Below w.heap.size w w' := by
  have := indep_any A 3 c [k1, k3, k2] w hl (by omega) hc ks4
  rwa [kf9, kf10] at this
set_option maxRecDepth 100000 in
theorem known_any (w : World) : Calls Tryz.prog 7 #[] w fun r w' => r = .returned (.bool true) ∧ Below w.heap.size w w' := by
  go_enter Tryz.func7, Tryz.ntmps7
  go_wp2_with fail
  with_reducible refine (kAdd1 _).mono ?_
  rintro _ w2 ⟨A1, c1, rfl, hr1, hc1, hb1⟩
  have HR1 := Lib.hid hr1
  have HB1 := Lib.hid hb1
  clear hr1 hb1 hc1
  go_wp2_with fail
  with_reducible refine (kAdd2 A1 c1 _ HR1.out).mono ?_
  rintro _ w3 ⟨A2, c2, rfl, hr2, hc2, hb2⟩
  have HR2 := Lib.hid hr2
  have HR1b := Lib.hid (HR1.out.on hb2)
  have HB2 := Lib.hid (below_trans' HB1.out hb2)
  clear hr2 hb2 hc2
  go_wp2_with fail
  with_reducible refine (kAdd3 A1 c1 _ HR1b.out).mono ?_
  rintro _ w4 ⟨A3, c3, rfl, hr3, hc3, hb3⟩
  have HR3 := Lib.hid hr3
  have HR2b := Lib.hid (HR2.out.on hb3)
  have HB3 := Lib.hid (below_trans' HB2.out hb3)
  clear hr3 hb3 hc3
  go_wp2_with fail
  with_reducible refine (kMrg A2 A3 c2 c3 _ HR2b.out HR3.out).mono ?_
  rintro _ w5 ⟨A4, c4, rfl, hr4, hc4, hb4⟩
  have HR4 := Lib.hid hr4
  have HR2c := Lib.hid (HR2b.out.on hb4)
  have HB4 := Lib.hid (below_trans' HB3.out hb4)
  clear hr4 hb4
  go_wp2_with fail
  with_reducible refine (kInd A4 c4 _ HR4.out hc4).mono ?_
  rintro _ w6 ⟨rfl, hb5⟩
  have HB5 := Lib.hid (below_trans' HB4.out hb5)
  obtain ⟨ad, e, e1, hbk, he, d0, d1, d2, d3, d4, d5⟩ := eat (HR2c.out.on hb5) (k := 1) (by decide)
  obtain rfl : k2 = e := Option.some.inj he
  have X : ∀ w, (Instr.indexAt 23 (.slice A2 2 c2) (.int .i64 1)).run Tryz.prog w = .ok (.pointer (some (ad.add (1 * 6)))) w := fun w => ix22 (n := 2) (c := c2) (k := 1) e1 (by omega) w
  have E : ∀ w, (binOp .eql 46 (.agg #[.int .i64 1, .int .i64 0, .int .i64 0]) (.agg #[.int .i64 1, .int .i64 0, .int .i64 0])).run Tryz.prog w = .ok (.bool true) w := fun w => (eql35 (1, 0, 0) (1, 0, 0) w).trans (by rw [show eqC (1, 0, 0) (1, 0, 0) = true from by decide])
  have G := eqg35 .eql
  change w6.cell? ⟨_, _, none⟩ = some (.int .i64 1) at d2
  change w6.cell? ⟨_, _, none⟩ = some (.int .i64 0) at d3
  change w6.cell? ⟨_, _, none⟩ = some (.int .i64 0) at d4
  clear hb5 he e1 hbk d0 d1 d5
  generalize ad.add (1 * 6) = p at X d2 d3 d4
  go_wp2_with fail
  go_ret
  exact ⟨rfl, HB5.out⟩
end Go.Proofs.YtnlhllleipemlaaGreatDoor

namespace Go.Proofs.YtnlhllleipemlaaGreatDoor
open Go.RowKit Go.Sort

theorem ordL_length {es : List Ent} (h : Card es) : (ordL es).length = es.length := by
  have := (ordL_perm h).length_eq
  rwa [List.length_range] at this
/-- The lines of the first entries in their order. -/
def wrK (es : List Ent) (k : Nat) : List UInt8 := ((ordE es).take k).flatMap lineL
theorem wrK_zero (es : List Ent) : wrK es 0 = [] := rfl
theorem wrK_succ {es : List Ent} {k j : Nat} {e : Ent} (hj : (ordL es)[k]? = some j) (he : es[j]? = some e) : wrK es (k + 1) = wrK es k ++ lineL e := by
  have h : (ordE es)[k]? = some e := by
    unfold ordE
    rw [List.getElem?_map, hj, Option.map_some, he]
    rfl
  unfold wrK
  rw [take_succ_of h, List.flatMap_append]
  simp
theorem wrK_full {es : List Ent} {k : Nat} (h : Card es) (hk : es.length ≤ k) : wrK es k = writeL es := by
  unfold wrK writeL
  rw [List.take_of_length_le (by rw [ordE_length h]; exact hk)]
theorem card_text {es : List Ent} (h : Card es) {e : Ent} (he : e ∈ es) : e.2.2.2.size ≤ 60 := by
  have := (h.txt e he).2.2
  unfold right edgeB at this
  rw [decide_eq_true_eq] at this
  exact this.1.2.1
theorem card_line_len {es : List Ent} (h : Card es) {e : Ent} (he : e ∈ es) : (lineL e).length ≤ 171 := by
  have h1 := headL_len (small_fits (card_small h he)) 5
  have h2 := card_text h he
  unfold lineL
  rw [← headL_five, List.length_append, List.length_append, ← ByteArray.toList_eq]
  have : e.2.2.2.toList.length = e.2.2.2.size := by rw [ByteArray.toList_eq]; simp
  simp
  omega
theorem wrK_len {es : List Ent} (h : Card es) : ∀ k, (wrK es k).length ≤ 171 * k
  | 0 => Nat.le_refl _
  | k + 1 => by
    have ih := wrK_len h k
    cases hz : (ordE es)[k]? with
    | some e =>
      have he := (mem_ordE h).1 (List.mem_of_getElem? hz)
      have := card_line_len h he
      unfold wrK at ih ⊢
      rw [take_succ_of hz, List.flatMap_append, List.length_append, List.flatMap_cons, List.flatMap_nil, List.append_nil]
      omega
    | none =>
      have : (ordE es).take (k + 1) = (ordE es).take k := by
        rw [List.getElem?_eq_none_iff] at hz
        rw [List.take_of_length_le (by omega), List.take_of_length_le (by omega)]
      unfold wrK at ih ⊢
      rw [this]
      omega
theorem card_short {es : List Ent} (h : Card es) : shortT es := fun e he => by have := card_text h he; omega
/-- A row of numbers beside a builder. -/
structure JR (N : Nat) (w : World) (A : Option Addr) (n : Nat) (js : List Nat) : Prop where
  rd : Reads w w.heap.size 1 A n (ints (js.map Int.ofNat))
  blk : ∀ p, A = some p → (∃ cur, At w p.block cur 3) ∧ p.block ≠ N
theorem JR.new {N bl n c : Nat} {w : World} {A : Option Addr} {js : List Nat} (h : w.ownsRow bl 3 1 (.slice A n c) n (ints (js.map Int.ofNat))) (hN : N < bl) : JR N w A n js := by
  refine ⟨Reads.of_own h, fun p hp => ?_⟩
  rcases h.2 with ⟨hv, h0⟩ | ⟨g', cap', cur, hv, hbb, hh, hnc, hcm, hcs, hct⟩
  · cases hv; cases hp
  · injection hv with e1 e2 e3
    rw [hp] at e1
    injection e1 with e1
    subst e1
    exact ⟨⟨cur, hh⟩, by show g' ≠ N; omega⟩
theorem JR.on {N n : Nat} {w w' : World} {A : Option Addr} {js : List Nat} (h : JR N w A n js) (hb : Below w.heap.size w w') : JR N w' A n js :=
  ⟨h.rd.on hb, fun p hp => ⟨(h.blk p hp).1.elim fun cur hc => ⟨cur, At.below hc hb⟩, (h.blk p hp).2⟩⟩
theorem JR.kept {N n : Nat} {w w' : World} {A : Option Addr} {js : List Nat} (h : JR N w A n js) (hk : Lib.OthersKept 5 (some N) w w') (hs : w.heap.size ≤ w'.heap.size) : JR N w' A n js := by
  refine ⟨⟨h.rd.1, fun h0 => ?_⟩, fun p hp => ⟨(h.blk p hp).1.elim fun cur hc => ⟨cur, At.kept hc hk (h.blk p hp).2 (by decide)⟩, (h.blk p hp).2⟩⟩
  obtain ⟨p, hp, hb, hc⟩ := h.rd.2 h0
  obtain ⟨⟨cur, hat⟩, hne⟩ := h.blk p hp
  refine ⟨p, hp, Nat.lt_of_lt_of_le hb hs, fun j u hj => ?_⟩
  have hk2 : w'.heap[(p.add j).block]? = w.heap[(p.add j).block]? := by
    rw [blockAdd p j]
    exact (At.kept hat hk hne (by decide)).trans hat.symm
  rw [World.cell?_of_block (a := p.add j) hk2]
  exact hc j u hj
set_option maxRecDepth 100000 in
set_option maxHeartbeats 4000000 in
theorem write_any (A : Option Addr) (n c : Nat) (es : List Ent) (w : World) (hl : Reads w w.heap.size 6 A n (ents es)) (hC : Card es) (hT : Tab w) :
    Calls Tryz.prog 26 #[.slice A n c] w fun r w' => r = .returned (.string ⟨(writeL es).toArray⟩) ∧ Below w.heap.size w w' := by
  have hlen := hl.1
  rw [ents_length] at hlen
  have hle : es.length = n := by omega
  have hn : n ≤ 60 := by have := hC.len; omega
  have HL := Lib.hid hl
  have HLE := Lib.hid hle
  have HC := Lib.hid hC
  have HT := Lib.hid hT
  have HSZ := Lib.hid (tab_size hT)
  have HWL : Hid (∀ k, (wrK es k).length ≤ 171 * k) := Lib.hid (wrK_len hC)
  have HB0 := Lib.hid (isB_new w)
  clear hl hlen hle hC hT
  go_enter Tryz.func26, Tryz.ntmps26
  go_wp2_with fail
  have HW0 := Lib.hid (belowA w (.cells #[.pointer none, .slice none 0 0] 99))
  generalize w.alloc (.cells #[.pointer none, .slice none 0 0] 99) = w1 at HB0 HW0 ⊢
  have hsz1 : w.heap.size < w1.heap.size := by
    rcases HB0.out with h | h <;> exact h.lt
  have HS1 := Lib.hid hsz1
  clear hsz1
  with_reducible refine (order_any A n c es _ (HL.out.on HW0.out) (by omega) (card_tame HC.out)).mono ?_
  rintro _ w3 ⟨A', c', js, rfl, hj, hr, hb3⟩
  have hjs := ordd_unique HC.out hj
  have hln : js.length = n := by rw [hjs, ordL_length HC.out, HLE.out]
  have HJ := Lib.hid hjs
  have HLN := Lib.hid hln
  have HB3 := Lib.hid (isB_below HB0.out hb3)
  have HW3 := Lib.hid (below_trans' HW0.out hb3)
  have HR3 := Lib.hid hr
  have HS3 : Hid (w1.heap.size ≤ w3.heap.size) := Lib.hid hb3.size
  clear hj hjs hln hr hb3 HB0 HW0
  go_wp2_with fail
  have HJR := Lib.hid (JR.new HR3.out HS1.out)
  have HT3 := Lib.hid (tab_below HT.out HW3.out)
  clear HR3
  go_loopw [5, 9] (fun _ i wr => ∃ k : Nat, k ≤ n ∧ i = .int .i64 k ∧ isB wr w.heap.size w.heap.size (wrK es k) ∧ JR w.heap.size wr A' n js ∧ Tab wr ∧ Below w.heap.size w wr) (fun _ i _ => n - (intOf i).toNat)
  case atStart => exact ⟨0, by omega, rfl, HB3.out, HJR.out, HT3.out, HW3.out⟩
  case round =>
    clear HB3 HJR HW3 HT3 HS3 HS1
    obtain ⟨k, hk, rfl, hb, hj, ht, hw⟩ := hrel
    have HB := Lib.hid hb
    have HR := Lib.hid hj
    have HTB := Lib.hid ht
    have HW := Lib.hid hw
    clear hb hj ht hw
    by_cases hlt : k < n
    · obtain ⟨adj, z, ej, _, hz, dj⟩ := dsat HR.out.rd (k := k) (by have := HLN.out; simp; omega)
      rw [List.getElem?_map] at hz
      obtain ⟨j, hj, rfl⟩ := Option.map_eq_some_iff.1 hz
      have hjl : j < es.length := (mem_ordL HC.out).1 (by rw [← HJ.out]; exact List.mem_of_getElem? hj)
      obtain ⟨ad, e, e1, _, he, d0, d1, d2, d3, d4, d5⟩ := eat (HL.out.on HW.out) (k := j) hjl
      have HST := Lib.hid (wrK_succ (by rw [← HJ.out]; exact hj) he)
      have hem := List.mem_of_getElem? he
      have HFE := Lib.hid (small_fits (card_small HC.out hem))
      have hts := card_text HC.out hem
      have hll := card_line_len HC.out hem
      have hwl := HWL.out k
      have hjn : j < n := by have := HLE.out; omega
      have X := fun w' => ix46 (c := c') ej hlt w'
      have Y := fun w' => ix22 (c := c) e1 hjn w'
      clear hz hj he ej e1 hem
      go_wp2_with fail
      with_reducible refine (line_any e _ HFE.out (by omega) HTB.out).mono ?_
      rintro _ w4 ⟨rfl, hb4⟩
      have HB4 := Lib.hid (isB_below HB.out hb4)
      have HR4 := Lib.hid (HR.out.on hb4)
      have HT4 := Lib.hid (tab_below HTB.out hb4)
      have HW4 := Lib.hid (below_trans' HW.out hb4)
      clear hb4 d0 d1 d2 d3 d4 d5 dj HB HR HTB HW
      go_wp2_with fail
      with_reducible refine (ws_any w.heap.size w.heap.size (wrK es k) (lineL e) w4 HB4.out (by omega) HW4.out.size).mono ?_
      rintro _ w5 ⟨⟨n5, rfl⟩, h5, hb5, hk5⟩
      have HB5 : Hid (isB w5 w.heap.size w.heap.size (wrK es (k + 1))) := Lib.hid (by rw [HST.out]; exact h5)
      have HR5 := Lib.hid (HR4.out.kept hk5 hb5.size)
      have HT5 := Lib.hid (tab_kept HT4.out hb5 HSZ.out)
      have HW5 := Lib.hid (HW4.out.trans hb5)
      clear h5 hb5 hk5 HB4 HR4 HT4 HW4
      go_wp2_with fail
      go_roundw
      case rel => exact ⟨k + 1, by omega, by go_num, HB5.out, HR5.out, HT5.out, HW5.out⟩
      case measure => simp [intOf]; omega
    · have HF := Lib.hid (wrK_full HC.out (k := k) (by have := HLE.out; omega))
      go_wp2_with fail
      with_reducible refine (bs_any w.heap.size w.heap.size (wrK es k) _ HB.out HW.out.size).mono ?_
      rintro _ w4 ⟨rfl, hb4⟩
      have HW4 := Lib.hid (HW.out.trans hb4)
      clear hb4
      go_wp2_with fail
      go_ret
      exact ⟨by rw [HF.out]; rfl, HW4.out⟩
/-- The text and the error of a list of entries. -/
def wrX (es : List Ent) : List UInt8 := if val es = 0 then writeL es else []
set_option maxRecDepth 100000 in
theorem Write_any (A : Option Addr) (n c : Nat) (es : List Ent) (w : World) (hl : Reads w w.heap.size 6 A n (ents es)) (hn : n ≤ 1000000) (ht : shortT es) (hT : Tab w) :
    Calls Tryz.prog 12 #[.slice A n c] w fun r w' => r = .returned (.tuple #[.string ⟨(wrX es).toArray⟩, .int .i64 (val es)]) ∧ Below w.heap.size w w' := by
  have HL := Lib.hid hl
  have HS := Lib.hid ht
  have HT := Lib.hid hT
  clear hl ht hT
  go_enter Tryz.func12, Tryz.ntmps12
  go_wp2_with fail
  with_reducible refine (validate_any A n c es _ HL.out hn HS.out).mono ?_
  rintro _ w2 ⟨rfl, hb2⟩
  have HW2 := Lib.hid hb2
  clear hb2
  by_cases hv : val es = 0
  case neg =>
    have HV : Hid (wrX es = []) := Lib.hid (if_neg hv)
    have g := neB hv
    clear hv
    go_wp2_with fail
    go_ret2
    rw [HV.out]
    exact ⟨rfl, HW2.out⟩
  have HV := Lib.hid hv
  have HV2 : Hid (wrX es = writeL es) := Lib.hid (if_pos hv)
  have HC := Lib.hid (val_zero.1 hv)
  have g := neBf hv
  clear hv
  go_wp2_with fail
  with_reducible refine (write_any A n c es _ (HL.out.on HW2.out) HC.out (tab_below HT.out HW2.out)).mono ?_
  rintro _ w3 ⟨rfl, hb3⟩
  have HW3 := Lib.hid (below_trans' HW2.out hb3)
  clear hb3
  go_wp2_with fail
  go_ret2
  rw [HV2.out, HV.out]
  exact ⟨rfl, HW3.out⟩
set_option maxRecDepth 100000 in
set_option maxHeartbeats 4000000 in
theorem refWrite_any (A : Option Addr) (n c : Nat) (es : List Ent) (w : World) (hl : Reads w w.heap.size 6 A n (ents es)) (hn : n ≤ 1000000) (hnc : n ≤ c) (ht : shortT es) (hT : Tab w) :
    Calls Tryz.prog 13 #[.slice A n c] w fun r w' => r = .returned (.tuple #[.string ⟨(wrX es).toArray⟩, .int .i64 (val es)]) ∧ Below w.heap.size w w' := by
  have hlen := hl.1
  rw [ents_length] at hlen
  have HLE : Hid (es.length = n) := Lib.hid (by omega)
  have HL := Lib.hid hl
  have HS := Lib.hid ht
  have HT := Lib.hid hT
  clear hl ht hT hlen
  go_enter Tryz.func13, Tryz.ntmps13
  go_wp2_with fail
  with_reducible refine (refValidate_any A n c es _ HL.out hn hnc HS.out).mono ?_
  rintro _ w2 ⟨rfl, hb2⟩
  have HW2 := Lib.hid hb2
  clear hb2
  by_cases hv : val es = 0
  case neg =>
    have HV : Hid (wrX es = []) := Lib.hid (if_neg hv)
    have g := neB hv
    clear hv
    go_wp2_with fail
    go_ret2
    rw [HV.out]
    exact ⟨rfl, HW2.out⟩
  have HV := Lib.hid hv
  have HV2 : Hid (wrX es = writeL es) := Lib.hid (if_pos hv)
  have HC := Lib.hid (val_zero.1 hv)
  have HWL : Hid (∀ k, (wrK es k).length ≤ 171 * k) := Lib.hid (wrK_len HC.out)
  have g := neBf hv
  have h60 : n ≤ 60 := by have := HC.out.len; have := HLE.out; omega
  clear hv
  go_wp2_with fail
  with_reducible refine (refOrder_any A n c es _ (HL.out.on HW2.out) h60 (card_tame HC.out)).mono ?_
  rintro _ w3 ⟨A', c', rfl, hr, hb3⟩
  obtain ⟨js, hjs⟩ : ∃ js, js = ordL es := ⟨_, rfl⟩
  have hln : js.length = n := by rw [hjs, ordL_length HC.out, HLE.out]
  have hln' : (ordL es).length = n := by rw [← hjs]; exact hln
  rw [hln'] at hr ⊢
  rw [← hjs] at hr
  have HJ := Lib.hid hjs
  have HLN := Lib.hid hln
  have HR3 := Lib.hid (Reads.of_own hr)
  have HW3 := Lib.hid (below_trans' HW2.out hb3)
  clear hjs hln hln' hr hb3 HW2
  go_wp2_with fail
  go_loopw [5, 7] (fun v i wr => ∃ k : Nat, k ≤ n ∧ i = .int .i64 k ∧ v = .string ⟨(wrK es k).toArray⟩ ∧ Reads wr wr.heap.size 1 A' n (ints (js.map Int.ofNat)) ∧ Below w.heap.size w wr) (fun _ i _ => n - (intOf i).toNat)
  case atStart => exact ⟨0, by omega, rfl, rfl, HR3.out, HW3.out⟩
  case round =>
    clear HR3 HW3
    obtain ⟨k, hk, rfl, rfl, hr, hw⟩ := hrel
    have HR := Lib.hid hr
    have HW := Lib.hid hw
    clear hr hw
    by_cases hlt : k < n
    · obtain ⟨adj, z, ej, _, hz, dj⟩ := dsat HR.out (k := k) (by have := HLN.out; simp; omega)
      rw [List.getElem?_map] at hz
      obtain ⟨j, hj, rfl⟩ := Option.map_eq_some_iff.1 hz
      have hjl : j < es.length := (mem_ordL HC.out).1 (by rw [← HJ.out]; exact List.mem_of_getElem? hj)
      obtain ⟨ad, e, e1, _, he, d0, d1, d2, d3, d4, d5⟩ := eat (HL.out.on HW.out) (k := j) hjl
      have HST := Lib.hid (wrK_succ (by rw [← HJ.out]; exact hj) he)
      have hem := List.mem_of_getElem? he
      have HFE := Lib.hid (small_fits (card_small HC.out hem))
      have hts := card_text HC.out hem
      have hll := card_line_len HC.out hem
      have hwl := HWL.out k
      have hjn : j < n := by have := HLE.out; omega
      have X := fun w' => ix46 (c := c') ej hlt w'
      have Y := fun w' => ix22 (c := c) e1 hjn w'
      clear hz hj he ej e1 hem
      go_wp2_with fail
      with_reducible refine (refLine_any e _ HFE.out (by omega) (tab_below HT.out HW.out)).mono ?_
      rintro _ w4 ⟨rfl, hb4⟩
      have HR4 := Lib.hid (HR.out.on hb4)
      have HW4 := Lib.hid (below_trans' HW.out hb4)
      clear hb4 d0 d1 d2 d3 d4 d5 dj HR HW
      go_wp2_with fail
      go_roundw
      case rel => exact ⟨k + 1, by omega, by go_num, by rw [HST.out, ← appB], HR4.out, HW4.out⟩
      case measure => simp [intOf]; omega
    · have HF := Lib.hid (wrK_full HC.out (k := k) (by have := HLE.out; omega))
      go_wp2_with fail
      go_ret2
      rw [HV2.out, HV.out, HF.out]
      exact ⟨rfl, HW.out⟩
end Go.Proofs.YtnlhllleipemlaaGreatDoor
