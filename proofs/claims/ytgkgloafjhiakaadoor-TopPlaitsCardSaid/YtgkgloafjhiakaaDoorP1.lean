/- Walks: which texts are words; both sides. -/
import Derived.Test.YtgkgloafjhiakaaDoorCa
import Derived.Test.YtgkgloafjhiakaaDoorPa
import Derived.Test.YtgkgloafjhiakaaDoorSl
import Derived.Laws.Runes
import Derived.Laws.RangeAny
import Derived.Laws.Concat
import Derived.Laws.Strings
import Derived.Laws.BytesString
namespace Go.Proofs.YtgkgloafjhiakaaDoor
open Go.RowKit Go.Sort

/-- A string of bytes. -/
abbrev mkB (l : List UInt8) : ByteArray := ⟨l.toArray⟩
abbrev liB (t : ByteArray) : List UInt8 := t.data.toList
theorem mk_li (t : ByteArray) : mkB (liB t) = t := by
  obtain ⟨⟨l⟩⟩ := t
  rfl
theorem li_mk (l : List UInt8) : liB (mkB l) = l := rfl
theorem li_size (t : ByteArray) : (liB t).length = t.size := by
  obtain ⟨⟨l⟩⟩ := t
  rfl
theorem li_get {t : ByteArray} {i : Nat} (h : i < t.size) : (liB t)[i]? = some t[i] := by
  obtain ⟨⟨l⟩⟩ := t
  exact List.getElem?_eq_getElem h
/-- The letters of words, as a text. -/
abbrev four : ByteArray := ⟨#[97, 65, 98, 66]⟩
theorem byte_high {c : UInt8} (h : 128 ≤ c.toNat) : Lib.indexByte (liB four) c = -1 ∧ Lib.indexByte [66] c = -1 ∧ Lib.indexByte [98, 66] c = -1 ∧ Lib.indexByte [] c = -1 := by
  have n1 : (97 : UInt8) ≠ c := fun e => by subst e; simp at h
  have n2 : (65 : UInt8) ≠ c := fun e => by subst e; simp at h
  have n3 : (98 : UInt8) ≠ c := fun e => by subst e; simp at h
  have n4 : (66 : UInt8) ≠ c := fun e => by subst e; simp at h
  simp [Lib.indexByte, n1, n2, n3, n4]
set_option maxRecDepth 100000 in
set_option maxHeartbeats 4000000 in
theorem indexRune_high (r : Int) (w : World) (h0 : 128 ≤ r) (h1 : r ≤ 2147483647) :
    Calls Tryd.prog 89 #[.string four, .int .i32 r] w fun e w' => e = .returned (.int .i64 (-1)) ∧ Below w.heap.size w w' := by
  go_enter Tryd.func89, Tryd.ntmps89
  by_cases hr : r = 65533
  · subst hr
    go_wp2_with fail
    go_loopw [5, 6] (fun _ _ wr => ∃ pos : Nat, pos ≤ 4 ∧ wr = w.iter four pos) (fun _ _ wr => 4 - wr.iterPos w.heap.size)
    case atStart => exact ⟨0, by omega, rfl⟩
    case round =>
      obtain ⟨pos, hp, rfl⟩ := hrel
      rcases (show pos = 0 ∨ pos = 1 ∨ pos = 2 ∨ pos = 3 ∨ pos = 4 by omega) with rfl | rfl | rfl | rfl | rfl
      case' inr.inr.inr.inr => 
        have N := fun ty => run_next_end (P := Tryd.prog) w four 4 ty (by decide)
        go_wp2_with fail
        go_ret
        exact ⟨rfl, belowA _ _⟩
      case' inl => have N : ∀ ty, (Instr.next (.pointer (some ⟨w.heap.size, 0, none⟩)) true ty).run Tryd.prog (w.iter four 0) = .ok (.tuple #[.bool true, .int .i64 0, .int .i32 97]) (w.iter four 1) := fun ty => run_next_ascii w four 0 ty (by decide) (by decide)
      case' inr.inl => have N : ∀ ty, (Instr.next (.pointer (some ⟨w.heap.size, 0, none⟩)) true ty).run Tryd.prog (w.iter four 1) = .ok (.tuple #[.bool true, .int .i64 1, .int .i32 65]) (w.iter four 2) := fun ty => run_next_ascii w four 1 ty (by decide) (by decide)
      case' inr.inr.inl => have N : ∀ ty, (Instr.next (.pointer (some ⟨w.heap.size, 0, none⟩)) true ty).run Tryd.prog (w.iter four 2) = .ok (.tuple #[.bool true, .int .i64 2, .int .i32 98]) (w.iter four 3) := fun ty => run_next_ascii w four 2 ty (by decide) (by decide)
      case' inr.inr.inr.inl => have N : ∀ ty, (Instr.next (.pointer (some ⟨w.heap.size, 0, none⟩)) true ty).run Tryd.prog (w.iter four 3) = .ok (.tuple #[.bool true, .int .i64 3, .int .i32 66]) (w.iter four 4) := fun ty => run_next_ascii w four 3 ty (by decide) (by decide)
      all_goals
        go_wp2_with fail
        go_roundw
        case rel => exact ⟨_, by omega, rfl⟩
        case measure => simp
  · by_cases hv : Lib.validRune r = true
    · have hv2 : Utf8.valid r = true := (validRune_eq r).trans hv
      obtain ⟨e2, e4, e5⟩ := encode_facts r hv2 h0
      have g2 : (r == 65533) = false := by simpa using hr
      have g3 : decide (r < 128) = false := by simp; omega
      have g4 : (0 : Int) ≤ r := by omega
      obtain ⟨E, hE⟩ : ∃ E, Utf8.encode r = E := ⟨_, rfl⟩
      rw [hE] at e2 e4
      simp only [hE] at e5
      go_wp2_with fail
      with_reducible refine (Tryd.utf8_ValidRune r _).mono ?_
      rintro _ w2 ⟨rfl, rfl⟩
      rw [hv]
      go_wp2_with fail
      go_step3
      obtain ⟨l, hl⟩ : ∃ l : Nat, E.size = l + 1 := ⟨E.size - 1, by omega⟩
      have m0 : l < E.size := by omega
      have e6 : 128 ≤ (E[l]'m0).toNat := by
        have := e5 (by omega)
        simpa [hl] using this
      clear e5
      have Q : ∀ (s : ByteArray), s.data.toList = [98, 66] ∨ s.data.toList = [66] ∨ s.data.toList = [] → ∀ w4 : World, Calls Tryd.prog 99 #[.string s, .int .u8 ((E[l]'m0).toNat : Int)] w4 fun r w' => r = .returned (.int .i64 (-1)) ∧ Below w4.heap.size w4 w' := fun s hs w4 =>
        (Tryd.strings_IndexByte s _ w4).mono fun r w' ⟨h1, h2⟩ => by
          subst h2
          refine ⟨?_, Below.refl _ _⟩
          rw [h1, show (((E[l]'m0).toNat : Int)).toNat.toUInt8 = E[l]'m0 by simp]
          obtain ⟨_, b1, b2, b3⟩ := byte_high e6
          rcases hs with hs | hs | hs <;> rw [hs]
          · rw [b2]
          · rw [b1]
          · rw [b3]
      rcases (show l = 1 ∨ l = 2 ∨ l = 3 by omega) with rfl | rfl | rfl
      · have gne : (((four[1]'(by decide)).toNat : Int) != ((E[1]'m0).toNat : Int)) = true := by show ((65 : Int) != _) = true; simp; omega
        have Q0 := Lib.hid fun w4 => Q (four.extract 2 4) (.inl rfl) w4
        clear Q
        go_wp2_with fail
        go_loopw [9, 10, 11, 12] (fun i f _ _ wr => i = .int .i64 1 ∧ f = .int .i64 0 ∧ wr = w2) (fun _ _ _ _ _ => 0)
        case atStart => exact ⟨rfl, rfl, rfl⟩
        case round =>
          obtain ⟨rfl, rfl, rfl⟩ := hrel
          go_wp2_with fail
          go_step3
          go_wp2_with fail
          go_quiet (fail)
          go_wp2_with fail
          refine wp_region_qb mixed (by kernel_rfl) ?_
          repeat (go_big_quiet_step (first | exact rg_call (fun w4 _ => Q0.out w4) _ _))
          refine wpQuiet_nil ?_
          intro w5 hb5
          have HB5 := Lib.hid (Below.trans (below_drewN' (Below.refl _ _) _) hb5)
          clear hb5
          go_wp2_with fail
          go_wp2_with fail
          simp +zetaDelta only [Exit.noGoto_ret, Exit.inBlock, Exit.then]
          go_ret
          exact ⟨rfl, HB5.out⟩
      · have gne : (((four[2]'(by decide)).toNat : Int) != ((E[2]'m0).toNat : Int)) = true := by show ((98 : Int) != _) = true; simp; omega
        have Q0 := Lib.hid fun w4 => Q (four.extract 3 4) (.inr (.inl rfl)) w4
        clear Q
        go_wp2_with fail
        go_loopw [9, 10, 11, 12] (fun i f _ _ wr => i = .int .i64 2 ∧ f = .int .i64 0 ∧ wr = w2) (fun _ _ _ _ _ => 0)
        case atStart => exact ⟨rfl, rfl, rfl⟩
        case round =>
          obtain ⟨rfl, rfl, rfl⟩ := hrel
          go_wp2_with fail
          go_step3
          go_wp2_with fail
          go_quiet (fail)
          go_wp2_with fail
          refine wp_region_qb mixed (by kernel_rfl) ?_
          repeat (go_big_quiet_step (first | exact rg_call (fun w4 _ => Q0.out w4) _ _))
          refine wpQuiet_nil ?_
          intro w5 hb5
          have HB5 := Lib.hid (Below.trans (below_drewN' (Below.refl _ _) _) hb5)
          clear hb5
          go_wp2_with fail
          go_wp2_with fail
          simp +zetaDelta only [Exit.noGoto_ret, Exit.inBlock, Exit.then]
          go_ret
          exact ⟨rfl, HB5.out⟩
      · have gne : (((four[3]'(by decide)).toNat : Int) != ((E[3]'m0).toNat : Int)) = true := by show ((66 : Int) != _) = true; simp; omega
        have Q0 := Lib.hid fun w4 => Q (four.extract 4 4) (.inr (.inr rfl)) w4
        clear Q
        go_wp2_with fail
        go_loopw [9, 10, 11, 12] (fun i f _ _ wr => i = .int .i64 3 ∧ f = .int .i64 0 ∧ wr = w2) (fun _ _ _ _ _ => 0)
        case atStart => exact ⟨rfl, rfl, rfl⟩
        case round =>
          obtain ⟨rfl, rfl, rfl⟩ := hrel
          go_wp2_with fail
          go_step3
          go_wp2_with fail
          go_quiet (fail)
          go_wp2_with fail
          refine wp_region_qb mixed (by kernel_rfl) ?_
          repeat (go_big_quiet_step (first | exact rg_call (fun w4 _ => Q0.out w4) _ _))
          refine wpQuiet_nil ?_
          intro w5 hb5
          have HB5 := Lib.hid (Below.trans (below_drewN' (Below.refl _ _) _) hb5)
          clear hb5
          go_wp2_with fail
          go_wp2_with fail
          simp +zetaDelta only [Exit.noGoto_ret, Exit.inBlock, Exit.then]
          go_ret
          exact ⟨rfl, HB5.out⟩
    · have g : Lib.validRune r = false := by simpa using hv
      have g2 : (r == 65533) = false := by simpa using hr
      have g3 : decide (r < 128) = false := by simp; omega
      have g4 : (0 : Int) ≤ r := by omega
      go_wp2_with fail
      with_reducible refine (Tryd.utf8_ValidRune r _).mono ?_
      rintro _ _ ⟨rfl, rfl⟩
      rw [g]
      go_wp2_with fail
      go_ret
      exact ⟨rfl, Below.refl _ _⟩
end Go.Proofs.YtgkgloafjhiakaaDoor
