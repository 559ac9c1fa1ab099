/- ArrayHarmonicsCardSaid: for every input the law ArrayHarmonics returns true, and its arguments read as before. No condition. -/
import Derived.Test.YtcihiglpahhboaaGreatDoorAFact
import Derived.Test.YtcihiglpahhboaaGreatDoorALift2
import Derived.Test.YtcihiglpahhboaaGreatDoorALawHar
namespace Go.Proofs.YtcihiglpahhboaaGreatDoor
open Go.ChangeShapes Go.WideShapes Go.ChangeAt Go.WideElems Go.RowKit
set_option maxRecDepth 100000

theorem arrayHarmonics_lifted (os : Os) (started : os.Started) (H : Type) (enc : TypeId × Value → H) :
    ReturnsInHanded {} Tryz.checked os 12 .any (fun w args => (Rows.arrayHarmonicsSpec.pre enc Tryz.prog Tryz.f12 [] false w args ∧ laidMetH Tryz.prog layA w) ∧ sizedMet enc Tryz.prog Tryz.f12 (OpenSpec.ofChange Rows.arrayHarmonicsSpec) false w args)
      (Rows.arrayHarmonicsSpec.post enc Tryz.prog Tryz.f12 false true false false) := by
  refine returnsInHanded_of_change_and (C := Tryz.checked) (X := fun w _ => laidMetH Tryz.prog layA w) (fun _ _ _ hh h => h.of_heap hh) ownK started (by kernel_rfl) Tryz.func12
    (ChangeSpec.witness_shaped (enc := enc) (C := Tryz.checked) (os := os) (X := fun w _ => laidMetH Tryz.prog layA w) false (World.doorLaid Tryz.prog 400 os) #[.agg #[.int .i64 0, .int .i64 0, .int .i64 0, .int .i64 0, .int .i64 0, .int .i64 0, .int .i64 0, .int .i64 0]] 8 rfl (World.shaped_of_RefB (by kernel_rfl) (by kernel_rfl)) (by kernel_rfl) (by kernel_rfl) (by kernel_rfl) (door_metA os _)) ?_
  intro W base args ds gs before hval0 hW _ _ hL _
  have hval : ∀ (j : Nat) t v, Tryz.f12.params[j]? = some t → args[j]? = some v → Value.okWide Tryz.prog W .any base t v := hval0
  have hV := vars_ofA hL
  have hW' := hW
  obtain ⟨p, q, hA0, _, _, _, _⟩ := hW
  have hA : DataW.TrodAll enc Tryz.prog W 0 (fun _ => true) true Tryz.f12.params.toList args.toList ds p := hA0
  rw [Tryz.params12] at hA hval
  obtain ⟨v0, d0, rfl, rfl, h0⟩ := trodAll_one hA
  obtain ⟨p0, rfl⟩ := open_four (hval 0 _ _ rfl rfl) h0
  refine (lawHar_any p0 W hV.vr hV.ten).mono fun e W' ⟨he, hb⟩ => ⟨_, he, ?_⟩
  exact law_post rfl rfl (by kernel_rfl) hW' ⟨rfl, rfl, rfl⟩ hb
theorem arrayHarmonics_f1 : (Rows.arrayHarmonicsRow.inPlace == Tryz.prog.inPlace 12) = true := by kernel_rfl
theorem arrayHarmonics_f2 : Tryz.prog.unfollowed 12 = true := by kernel_rfl
theorem arrayHarmonics_f3 : (Rows.arrayHarmonicsRow.named == Tryz.prog.varsNamed 12) = true := by kernel_rfl
theorem arrayHarmonics_f4 : (Rows.arrayHarmonicsRow.recurses == Tryz.prog.recurses 12) = true := by kernel_rfl
theorem arrayHarmonics_facts : joinedFacts Tryz.prog 12 Tryz.f12 Rows.arrayHarmonicsSpec Rows.arrayHarmonicsRow = true := by
  unfold joinedFacts
  rw [laidOut, fa1, fa4, fa5, fa6, fa7, fa8, arrayHarmonics_f1, arrayHarmonics_f2, arrayHarmonics_f3, arrayHarmonics_f4]
  kernel_rfl
theorem arrayHarmonics_holds : Rows.ArrayHarmonicsSaid :=
  OpenClaim.holds_of_wide 12 Tryz.f12 rfl rfl rfl rfl rfl rfl rfl ⟨rfl, rfl, rfl, rfl, rfl⟩ rfl rfl rfl rfl rfl (by kernel_rfl) Tryz.func12 arrayHarmonics_facts
    (of_decide_eq_true (by kernel_rfl)) (by unfold Func.isWrapper; first | (rw [if_pos (by decide +kernel)]; kernel_rfl) | (rw [if_neg (by decide +kernel)]; exact ⟨rfl, rfl⟩))
    (fun os started H enc _ => arrayHarmonics_lifted os started H enc)
theorem arrayHarmonics_card_holds : Rows.ArrayHarmonicsCardSaid :=
  Claim7.holds_tied_plain_at .later [] [.data, .data, .data, .data, .data] true (true, Rows.arrayHarmonicsCard.stood.harness.2) true
    arrayHarmonics_holds (fun _ h => by cases h) (by kernel_rfl) (fun _ h => by cases h) arrayHarmonics_row_tie rfl ⟨rfl, rfl⟩ (by kernel_rfl) rfl
    (fun f fn hf hfn => by
      obtain rfl : f = 12 := Option.some.inj ((show Tryz.prog.funcNamed "woofer/wooferlaw06.ArrayHarmonics" = some 12 by kernel_rfl).symm.trans hf) |>.symm
      obtain rfl : fn = Tryz.f12 := (Option.some.inj (Tryz.func12.symm.trans hfn)).symm
      exact ⟨by kernel_rfl, fun j t ht => by
        rw [Tryz.params12] at ht
        have hm : t ∈ [114] := by simpa using Array.mem_of_getElem? ht
        have hall : ([114].all fun u => !Tryz.prog.wantsStandIn u) = true := by kernel_rfl
        exact (show Tryz.prog.wantsStandIn t = false by simpa using List.all_eq_true.1 hall t hm)⟩)
    (by kernel_rfl)
#print axioms arrayHarmonics_card_holds
end Go.Proofs.YtcihiglpahhboaaGreatDoor
