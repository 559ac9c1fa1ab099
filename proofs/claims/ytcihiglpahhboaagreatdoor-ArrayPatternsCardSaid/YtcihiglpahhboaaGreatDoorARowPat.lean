/- ArrayPatternsCardSaid: for every input the law ArrayPatterns returns true, and its arguments read as before. No condition. -/
import Derived.Test.YtcihiglpahhboaaGreatDoorAFact
import Derived.Test.YtcihiglpahhboaaGreatDoorALift3
import Derived.Test.YtcihiglpahhboaaGreatDoorALawPat
namespace Go.Proofs.YtcihiglpahhboaaGreatDoor
open Go.ChangeShapes Go.WideShapes Go.ChangeAt Go.WideElems Go.RowKit
set_option maxRecDepth 100000

theorem arrayPatterns_lifted (os : Os) (started : os.Started) (H : Type) (enc : TypeId × Value → H) :
    ReturnsInHanded {} Tryz.checked os 8 .any (fun w args => (Rows.arrayPatternsSpec.pre enc Tryz.prog Tryz.f8 [] false w args ∧ laidMetH Tryz.prog layA w) ∧ sizedMet enc Tryz.prog Tryz.f8 (OpenSpec.ofChange Rows.arrayPatternsSpec) false w args)
      (Rows.arrayPatternsSpec.post enc Tryz.prog Tryz.f8 false true false false) := by
  refine returnsInHanded_of_change_and (C := Tryz.checked) (X := fun w _ => laidMetH Tryz.prog layA w) (fun _ _ _ hh h => h.of_heap hh) ownK started (by kernel_rfl) Tryz.func8
    (ChangeSpec.witness_shaped (enc := enc) (C := Tryz.checked) (os := os) (X := fun w _ => laidMetH Tryz.prog layA w) false (World.doorLaid Tryz.prog 400 os) #[.slice none 0 0, .int .i64 0] 8 rfl (World.shaped_of_RefB (by kernel_rfl) (by kernel_rfl)) (by kernel_rfl) (by kernel_rfl) (by kernel_rfl) (door_metA os _)) ?_
  intro W base args ds gs before hval0 hW _ _ hL _
  have hval : ∀ (j : Nat) t v, Tryz.f8.params[j]? = some t → args[j]? = some v → Value.okWide Tryz.prog W .any base t v := hval0
  have hV := vars_ofA hL
  have hW' := hW
  obtain ⟨p, q, hA0, _, _, _, _⟩ := hW
  have hA : DataW.TrodAll enc Tryz.prog W 0 (fun _ => true) true Tryz.f8.params.toList args.toList ds p := hA0
  rw [Tryz.params8] at hA hval
  obtain ⟨v0, v1, d0, d1, p0, p1, rfl, rfl, rfl, h0, h1⟩ := trodAll_two hA
  obtain ⟨A0, n0, c0, l0, rfl, hm0, hR0⟩ := open_srcs (hval 0 _ _ rfl rfl) h0
  obtain ⟨k1, rfl, hk1, hk1'⟩ := open_i64 (hval 1 _ _ rfl rfl) h1
  refine (lawPat_any A0 n0 c0 l0 k1 W hR0 hV.vr hV.ten).mono fun e W' ⟨he, hb⟩ => ⟨_, he, ?_⟩
  exact law_post rfl rfl (by kernel_rfl) hW' ⟨rfl, rfl, rfl⟩ hb
theorem arrayPatterns_f1 : (Rows.arrayPatternsRow.inPlace == Tryz.prog.inPlace 8) = true := by kernel_rfl
theorem arrayPatterns_f2 : Tryz.prog.unfollowed 8 = true := by kernel_rfl
theorem arrayPatterns_f3 : (Rows.arrayPatternsRow.named == Tryz.prog.varsNamed 8) = true := by kernel_rfl
theorem arrayPatterns_f4 : (Rows.arrayPatternsRow.recurses == Tryz.prog.recurses 8) = true := by kernel_rfl
theorem arrayPatterns_facts : joinedFacts Tryz.prog 8 Tryz.f8 Rows.arrayPatternsSpec Rows.arrayPatternsRow = true := by
  unfold joinedFacts
  rw [laidOut, fa1, fa4, fa5, fa6, fa7, fa8, arrayPatterns_f1, arrayPatterns_f2, arrayPatterns_f3, arrayPatterns_f4]
  kernel_rfl
theorem arrayPatterns_holds : Rows.ArrayPatternsSaid :=
  OpenClaim.holds_of_wide 8 Tryz.f8 rfl rfl rfl rfl rfl rfl rfl ⟨rfl, rfl, rfl, rfl, rfl⟩ rfl rfl rfl rfl rfl (by kernel_rfl) Tryz.func8 arrayPatterns_facts
    (of_decide_eq_true (by kernel_rfl)) (by unfold Func.isWrapper; first | (rw [if_pos (by decide +kernel)]; kernel_rfl) | (rw [if_neg (by decide +kernel)]; exact ⟨rfl, rfl⟩))
    (fun os started H enc _ => arrayPatterns_lifted os started H enc)
theorem arrayPatterns_card_holds : Rows.ArrayPatternsCardSaid :=
  Claim7.holds_tied_plain_at .later [] [.data, .data, .data, .data, .data] true (true, Rows.arrayPatternsCard.stood.harness.2) true
    arrayPatterns_holds (fun _ h => by cases h) (by kernel_rfl) (fun _ h => by cases h) arrayPatterns_row_tie rfl ⟨rfl, rfl⟩ (by kernel_rfl) rfl
    (fun f fn hf hfn => by
      obtain rfl : f = 8 := Option.some.inj ((show Tryz.prog.funcNamed "woofer/wooferlaw06.ArrayPatterns" = some 8 by kernel_rfl).symm.trans hf) |>.symm
      obtain rfl : fn = Tryz.f8 := (Option.some.inj (Tryz.func8.symm.trans hfn)).symm
      exact ⟨by kernel_rfl, fun j t ht => by
        rw [Tryz.params8] at ht
        have hm : t ∈ [22, 3] := by simpa using Array.mem_of_getElem? ht
        have hall : ([22, 3].all fun u => !Tryz.prog.wantsStandIn u) = true := by kernel_rfl
        exact (show Tryz.prog.wantsStandIn t = false by simpa using List.all_eq_true.1 hall t hm)⟩)
    (by kernel_rfl)
#print axioms arrayPatterns_card_holds
end Go.Proofs.YtcihiglpahhboaaGreatDoor
