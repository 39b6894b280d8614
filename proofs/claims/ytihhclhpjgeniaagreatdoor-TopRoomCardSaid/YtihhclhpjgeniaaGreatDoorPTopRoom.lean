/- The law TopRoom answers true at every argument.
   Conditions: none. -/
import Derived.Test.YtihhclhpjgeniaaGreatDoorSB42
import Derived.Test.YtihhclhpjgeniaaGreatDoorSB45
import Derived.Test.YtihhclhpjgeniaaGreatDoorSB46
import Derived.Test.YtihhclhpjgeniaaGreatDoorCards
namespace Go.Proofs.YtihhclhpjgeniaaGreatDoor
open Go.ChangeShapes Go.WideShapes Go.ChangeAt Go.RowKit

set_option maxRecDepth 100000 in
theorem topRoom_lifted (os : Os) (started : os.Started) (H : Type) (enc : TypeId × Value → H) :
    ReturnsInHanded {} Tryz.checked os 17 .any (fun w args => (Rows.topRoomSpec.pre enc Tryz.prog Tryz.f17 [] false w args ∧ laidMetH Tryz.prog laidR w) ∧ sizedMet enc Tryz.prog Tryz.f17 (OpenSpec.ofChange Rows.topRoomSpec) false w args)
      (Rows.topRoomSpec.post enc Tryz.prog Tryz.f17 false true false false) := by
  refine lift_of (C := Tryz.checked) (laid := laidR) (M := MW) mw_of own started (by kernel_rfl) Tryz.func17
    (ChangeSpec.witness_shaped (enc := enc) (C := Tryz.checked) (os := os) (X := fun w _ => laidMetH Tryz.prog laidR w) false (World.laidAll Tryz.prog os laidR) #[.slice none 0 0] 8 (World.laidAll_os _ _ _)
      (World.shaped_of_ZipB (by kernel_rfl) (by kernel_rfl)) (by kernel_rfl) (by kernel_rfl) (by kernel_rfl)
      (by rw [MakeChecks.laidMetH_plain _ _ _ (by kernel_rfl)]; exact laidMet_laidAll _ (by kernel_rfl) (by kernel_rfl))) ?_
  intro W base args ds gs before hval0 hW hmx
  have hval : ∀ (j : Nat) t v, Tryz.f17.params[j]? = some t → args[j]? = some v → Value.okWide Tryz.prog W .any base t v := hval0
  have hW' := hW
  obtain ⟨p, q, hA0, hV, rfl, hfz, hnd⟩ := hW
  have hA : DataW.TrodAll enc Tryz.prog W 0 (fun _ => true) true Tryz.f17.params.toList args.toList ds p := hA0
  have hAk := hA
  rw [Tryz.params17] at hA hval
  obtain ⟨v0, d0, rfl, rfl, h0⟩ := trodAll_one hA
  obtain ⟨rfl, rfl⟩ := trodVars_none hV
  obtain ⟨A0, n0, c0, l0, rfl, hin0, hn0⟩ := open_strL (hval 0 22 v0 rfl rfl) h0
  clear hA0 hval0
  simp only [List.append_nil] at hW'
  refine (lawRoom_any A0 n0 c0 l0 W hmx hin0 hn0).mono fun e W' ⟨he, hb⟩ => ?_
  subst he
  exact ⟨_, rfl, law_post rfl (by rw [Tryz.params17]; intro t ht; simp at ht; subst ht; exact ⟨by kernel_rfl, of_decide_eq_true (by kernel_rfl)⟩) (by kernel_rfl) rfl hW' hAk hb⟩

theorem topRoom_in : (Rows.topRoomRow.inPlace == Tryz.prog.inPlace 17) = true := by kernel_rfl
theorem topRoom_un : (Rows.topRoomRow.unfollowed == Tryz.prog.unfollowed 17) = true := by kernel_rfl
theorem topRoom_rec : (Rows.topRoomRow.recurses == Tryz.prog.recurses 17) = true := by kernel_rfl
theorem topRoom_named : (Rows.topRoomRow.named == Tryz.prog.varsNamed 17) = true := by kernel_rfl
theorem topRoom_goes : false = Rows.topRoomRow.goesBy Tryz.prog := by kernel_rfl
theorem topRoom_joined : joinedFacts Tryz.prog 17 Tryz.f17 Rows.topRoomSpec Rows.topRoomRow = true := by
  unfold joinedFacts
  rw [jf_may, show (Rows.topRoomRow.lifted == Tryz.prog.liftsFinal) = true from jf_lifted, jf_heard, show (Rows.topRoomRow.plainKeys == Tryz.prog.plainKeys) = true from jf_keys, jf_laid, jf_rowed, topRoom_in, topRoom_un, topRoom_rec, topRoom_named]
  kernel_rfl
theorem topRoom_row : Rows.TopRoomSaid :=
  OpenClaim.holds_of_wide 17 Tryz.f17 rfl rfl rfl rfl rfl rfl rfl ⟨rfl, rfl, rfl, rfl, rfl⟩ rfl rfl rfl rfl rfl (by kernel_rfl) Tryz.func17 topRoom_joined
    (of_decide_eq_true (by kernel_rfl)) (by unfold Func.isWrapper; first | (rw [if_pos (by decide +kernel)]; kernel_rfl) | (rw [if_neg (by decide +kernel)]; exact ⟨rfl, rfl⟩))
    (fun os started H enc _ => topRoom_lifted os started H enc)
theorem topRoom_holds : Rows.TopRoomCardSaid :=
  Claim7.holds_tied_plain_at .later [] [.data, .data, .data, .data, .pinned] true (true, "263c4f94002e2a1a818ba82672a9446cd63935229c3b4fce9db31b36b8fcd501") true topRoom_row (fun _ h => by cases h) (by kernel_rfl) (fun _ h => by cases h) topRoom_row_tie rfl ⟨rfl, rfl⟩ (by kernel_rfl) rfl
    (fun f fn hf hfn => by
      obtain rfl : f = 17 := Option.some.inj ((show Tryz.prog.funcNamed "wigmaker/wigmakertop.TopRoom" = some 17 by kernel_rfl).symm.trans hf) |>.symm
      obtain rfl : fn = Tryz.f17 := (Option.some.inj (Tryz.func17.symm.trans hfn)).symm
      exact ⟨by kernel_rfl, fun j t ht => by
        rw [Tryz.params17] at ht
        have hm : t ∈ [22] := by simpa using Array.mem_of_getElem? ht
        have hall : ([22].all fun u => !Tryz.prog.wantsStandIn u) = true := by kernel_rfl
        exact (show Tryz.prog.wantsStandIn t = false by simpa using List.all_eq_true.1 hall t hm)⟩)
    topRoom_goes
#print axioms topRoom_holds
end Go.Proofs.YtihhclhpjgeniaaGreatDoor
