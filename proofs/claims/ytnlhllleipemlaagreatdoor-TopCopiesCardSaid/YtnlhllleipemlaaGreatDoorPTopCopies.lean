/- TopCopies answers true for all lists of deeds and numbers: copies that are written at three places are brought together in any order with the same result.
   Conditions: none. -/
import Derived.Test.YtnlhllleipemlaaGreatDoorH1
import Derived.Test.YtnlhllleipemlaaGreatDoorG8
import Derived.Test.YtnlhllleipemlaaGreatDoorCards
namespace Go.Proofs.YtnlhllleipemlaaGreatDoor
open Go.ChangeShapes Go.WideShapes Go.ChangeAt Go.RowKit

set_option maxRecDepth 100000 in
theorem topCopies_lifted (os : Os) (started : os.Started) (H : Type) (enc : TypeId × Value → H) :
    ReturnsInHanded {} Tryz.checked os 6 .any (fun w args => (Rows.topCopiesSpec.pre enc Tryz.prog Tryz.f6 [] false w args ∧ laidMetH Tryz.prog laidR w) ∧ sizedMet enc Tryz.prog Tryz.f6 (OpenSpec.ofChange Rows.topCopiesSpec) false w args)
      (Rows.topCopiesSpec.post enc Tryz.prog Tryz.f6 false true false false) := by
  refine lift_of (C := Tryz.checked) (laid := laidR) (M := MW) mw_of own started (by kernel_rfl) Tryz.func6
    (ChangeSpec.witness_shaped (enc := enc) (C := Tryz.checked) (os := os) (X := fun w _ => laidMetH Tryz.prog laidR w) false (laidW os) #[.slice none 0 0, .int .i64 0] 8 (laidW_os os)
      (World.shaped_of_ZipB (by kernel_rfl) (by kernel_rfl)) (by kernel_rfl) (by kernel_rfl) (by kernel_rfl)
      (laidW_met os _)) ?_
  intro W base args ds gs before hval0 hW hmx
  have hval : ∀ (j : Nat) t v, Tryz.f6.params[j]? = some t → args[j]? = some v → Value.okWide Tryz.prog W .any base t v := hval0
  have hW' := hW
  obtain ⟨p, q, hA0, hV, rfl, hfz, hnd⟩ := hW
  have hA : DataW.TrodAll enc Tryz.prog W 0 (fun _ => true) true Tryz.f6.params.toList args.toList ds p := hA0
  have hAk := hA
  rw [Tryz.params6] at hA hval
  obtain ⟨v0, v1, d0, d1, p0, p1, rfl, rfl, rfl, h0, h1⟩ := trodAll_two hA
  obtain ⟨rfl, rfl⟩ := trodVars_none hV
  obtain ⟨A0, n0, c0, l0, rfl, hin0, hc0, _⟩ := open_deds (hval 0 36 v0 rfl rfl) h0
  obtain ⟨u1, rfl, bd1⟩ := open_num (hval 1 3 v1 rfl rfl) h1
  clear hA0 hval0
  simp only [List.append_nil] at hW'
  refine (topCopies_any A0 n0 c0 l0 u1 W hmx ⟨hin0, hc0.1⟩ bd1).mono fun e W' ⟨he, hb⟩ => ?_
  subst he
  exact ⟨_, rfl, law_post rfl (by rw [Tryz.params6]; intro t ht; simp at ht; rcases ht with rfl | rfl <;> exact ⟨by kernel_rfl, of_decide_eq_true (by kernel_rfl)⟩) (by kernel_rfl) rfl hW' hAk hb⟩

theorem topCopies_row : Rows.TopCopiesSaid :=
  OpenClaim.holds_of_wide 6 Tryz.f6 rfl rfl rfl rfl rfl rfl rfl ⟨rfl, rfl, rfl, rfl, rfl⟩ rfl rfl rfl rfl rfl (by kernel_rfl) Tryz.func6 (by kernel_rfl)
    (of_decide_eq_true (by kernel_rfl)) (by unfold Func.isWrapper; first | (rw [if_pos (by decide +kernel)]; kernel_rfl) | (rw [if_neg (by decide +kernel)]; exact ⟨rfl, rfl⟩))
    (fun os started H enc _ => topCopies_lifted os started H enc)
theorem topCopies_holds : Rows.TopCopiesCardSaid :=
  Claim7.holds_tied_plain_at .later [] [.data, .data, .data, .data, .handle, .sentinel, .sentinel, .pinned] true (true, "6e730a3ec9a28f8e756c7fc874cd868baa7619cc1b38b5a605f18a75a04a194c") true topCopies_row (fun _ h => by cases h) (by kernel_rfl) (fun _ h => by cases h) topCopies_row_tie rfl ⟨rfl, rfl⟩ (by kernel_rfl) rfl
    (fun f fn hf hfn => by
      obtain rfl : f = 6 := Option.some.inj ((show Tryz.prog.funcNamed "wigmaker/wigmakertop.TopCopies" = some 6 by kernel_rfl).symm.trans hf) |>.symm
      obtain rfl : fn = Tryz.f6 := (Option.some.inj (Tryz.func6.symm.trans hfn)).symm
      exact ⟨by kernel_rfl, fun j t ht => by
        rw [Tryz.params6] at ht
        have hm : t ∈ [36, 3] := by simpa using Array.mem_of_getElem? ht
        have hall : ([36, 3].all fun u => !Tryz.prog.wantsStandIn u) = true := by kernel_rfl
        exact (show Tryz.prog.wantsStandIn t = false by simpa using List.all_eq_true.1 hall t hm)⟩)
    (by kernel_rfl)
#print axioms topCopies_holds
end Go.Proofs.YtnlhllleipemlaaGreatDoor
