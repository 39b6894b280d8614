/- Normal form, matrix and changes of words agree about sameness; a plait and its mirror image reversed undo each other; a half twist flips.
   Conditions: none. -/
import Derived.Test.YtgkgloafjhiakaaDoorZt
import Derived.Test.YtgkgloafjhiakaaDoorRc
namespace Go.Proofs.YtgkgloafjhiakaaDoor
open Go.ChangeShapes Go.WideShapes Go.ChangeAt Go.RowKit

set_option maxRecDepth 100000 in
theorem topPlaits_lifted (os : Os) (started : os.Started) (H : Type) (enc : TypeId × Value → H) :
    ReturnsInHanded {} Tryd.checked os 16 .any (fun w args => (Rows.topPlaitsSpec.pre enc Tryd.prog Tryd.f16 [] false w args ∧ laidMetH Tryd.prog laidR w) ∧ sizedMet enc Tryd.prog Tryd.f16 (OpenSpec.ofChange Rows.topPlaitsSpec) false w args)
      (Rows.topPlaitsSpec.post enc Tryd.prog Tryd.f16 false true false false) := by
  refine lift_of (C := Tryd.checked) (laid := laidR) (M := MX) mx_of own started (by kernel_rfl) Tryd.func16
    (ChangeSpec.witness_shaped (enc := enc) (C := Tryd.checked) (os := os) (X := fun w _ => laidMetH Tryd.prog laidR w) false (World.laidAll Tryd.prog os laidR) #[.string ⟨#[]⟩, .string ⟨#[]⟩, .slice none 0 0] 8 (World.laidAll_os _ _ _)
      (World.shaped_of_ZipB (by kernel_rfl) (by kernel_rfl)) (by kernel_rfl) (by kernel_rfl) (by kernel_rfl)
      (by rw [MakeChecks.laidMetH_plain _ _ _ (by kernel_rfl)]; exact laidMet_laidAll _ (by kernel_rfl) (by kernel_rfl))) ?_
  intro W base args ds gs before hval0 hW hmx
  have hval : ∀ (j : Nat) t v, Tryd.f16.params[j]? = some t → args[j]? = some v → Value.okWide Tryd.prog W .any base t v := hval0
  have hW' := hW
  obtain ⟨p, q, hA0, hV, rfl, hfz, hnd⟩ := hW
  have hA : DataW.TrodAll enc Tryd.prog W 0 (fun _ => true) true Tryd.f16.params.toList args.toList ds p := hA0
  have hAk := hA
  rw [Tryd.params16] at hA hval
  obtain ⟨v0, v1, v2, d0, d1, d2, p0, p1, p2, rfl, rfl, rfl, h0, h1, h2⟩ := trodAll_three hA
  obtain ⟨rfl, rfl⟩ := trodVars_none hV
  obtain ⟨u0, rfl, bd0⟩ := open_txt (hval 0 9 v0 rfl rfl) h0
  obtain ⟨u1, rfl, bd1⟩ := open_txt (hval 1 9 v1 rfl rfl) h1
  obtain ⟨A2, n2, c2, l2, rfl, hr2, hn2, _⟩ := open_pls (hval 2 43 v2 rfl rfl) h2
  clear hA0 hval0
  simp only [List.append_nil] at hW'
  refine (topPlaits_any u0 u1 A2 n2 c2 l2 W hmx hr2 hn2).mono fun e W' ⟨he, hb⟩ => ?_
  subst he
  exact ⟨_, rfl, law_post rfl (by rw [Tryd.params16]; intro t ht; simp at ht; rcases ht with rfl | rfl | rfl <;> exact ⟨by kernel_rfl, of_decide_eq_true (by kernel_rfl)⟩) (by kernel_rfl) rfl hW' hAk hb⟩

theorem topPlaits_row : Rows.TopPlaitsSaid :=
  OpenClaim.holds_of_wide 16 Tryd.f16 rfl rfl rfl rfl rfl rfl rfl ⟨rfl, rfl, rfl, rfl, rfl⟩ rfl rfl rfl rfl rfl (by kernel_rfl) Tryd.func16 (by kernel_rfl)
    (of_decide_eq_true (by kernel_rfl)) (by unfold Func.isWrapper; first | (rw [if_pos (by decide +kernel)]; kernel_rfl) | (rw [if_neg (by decide +kernel)]; exact ⟨rfl, rfl⟩))
    (fun os started H enc _ => topPlaits_lifted os started H enc)
theorem topPlaits_holds : Rows.TopPlaitsCardSaid :=
  Claim7.holds_tied_plain_at .later [] [.data, .pinned] true (true, "2c31217c0d18bec6b5e720dc94ea009e7e5d1042cdf1b869f015b9b50549bc85") true topPlaits_row (fun _ h => by cases h) (by kernel_rfl) (fun _ h => by cases h) topPlaits_row_tie rfl ⟨rfl, rfl⟩ (by kernel_rfl) rfl
    (fun f fn hf hfn => by
      obtain rfl : f = 16 := Option.some.inj ((show Tryd.prog.funcNamed "wigmaker/wigmakertop.TopPlaits" = some 16 by kernel_rfl).symm.trans hf) |>.symm
      obtain rfl : fn = Tryd.f16 := (Option.some.inj (Tryd.func16.symm.trans hfn)).symm
      exact ⟨by kernel_rfl, fun j t ht => by
        rw [Tryd.params16] at ht
        have hm : t ∈ [9, 9, 43] := by simpa using Array.mem_of_getElem? ht
        have hall : ([9, 9, 43].all fun u => !Tryd.prog.wantsStandIn u) = true := by kernel_rfl
        exact (show Tryd.prog.wantsStandIn t = false by simpa using List.all_eq_true.1 hall t hm)⟩)
    (by kernel_rfl)
#print axioms topPlaits_holds
end Go.Proofs.YtgkgloafjhiakaaDoor
