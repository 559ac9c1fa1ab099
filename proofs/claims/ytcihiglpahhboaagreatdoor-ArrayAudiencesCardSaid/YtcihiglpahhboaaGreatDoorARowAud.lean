/- ArrayAudiencesCardSaid: for every input the law ArrayAudiences returns true, and its arguments read as before. No condition. -/
import Derived.Test.YtcihiglpahhboaaGreatDoorAFact
import Derived.Test.YtcihiglpahhboaaGreatDoorALift3
import Derived.Test.YtcihiglpahhboaaGreatDoorALawAud
namespace Go.Proofs.YtcihiglpahhboaaGreatDoor
open Go.ChangeShapes Go.WideShapes Go.ChangeAt Go.WideElems Go.RowKit
set_option maxRecDepth 100000

theorem arrayAudiences_lifted (os : Os) (started : os.Started) (H : Type) (enc : TypeId × Value → H) :
    ReturnsInHanded {} Tryz.checked os 6 .any (fun w args => (Rows.arrayAudiencesSpec.pre enc Tryz.prog Tryz.f6 [] false w args ∧ laidMetH Tryz.prog layA w) ∧ sizedMet enc Tryz.prog Tryz.f6 (OpenSpec.ofChange Rows.arrayAudiencesSpec) false w args)
      (Rows.arrayAudiencesSpec.post enc Tryz.prog Tryz.f6 false true false false) := by
  refine returnsInHanded_of_change_and (C := Tryz.checked) (X := fun w _ => laidMetH Tryz.prog layA w) (fun _ _ _ hh h => h.of_heap hh) ownK started (by kernel_rfl) Tryz.func6
    (ChangeSpec.witness_shaped (enc := enc) (C := Tryz.checked) (os := os) (X := fun w _ => laidMetH Tryz.prog layA w) false (World.doorLaid Tryz.prog 400 os) #[.slice none 0 0, .agg #[.int .i64 0, .int .i64 0, .int .i64 0, .int .i64 0, .int .i64 0, .int .i64 0, .int .i64 0, .int .i64 0], .int .i64 0] 8 rfl (World.shaped_of_RefB (by kernel_rfl) (by kernel_rfl)) (by kernel_rfl) (by kernel_rfl) (by kernel_rfl) (door_metA os _)) ?_
  intro W base args ds gs before hval0 hW _ _ hL _
  have hval : ∀ (j : Nat) t v, Tryz.f6.params[j]? = some t → args[j]? = some v → Value.okWide Tryz.prog W .any base t v := hval0
  have hV := vars_ofA hL
  have hW' := hW
  obtain ⟨p, q, hA0, _, _, _, _⟩ := hW
  have hA : DataW.TrodAll enc Tryz.prog W 0 (fun _ => true) true Tryz.f6.params.toList args.toList ds p := hA0
  rw [Tryz.params6] at hA hval
  obtain ⟨v0, v1, v2, d0, d1, d2, p0, p1, p2, rfl, rfl, rfl, h0, h1, h2⟩ := trodAll_three hA
  obtain ⟨A0, n0, c0, l0, rfl, hm0, hR0⟩ := open_srcs (hval 0 _ _ rfl rfl) h0
  obtain ⟨a1, rfl⟩ := open_au (hval 1 _ _ rfl rfl) h1
  obtain ⟨k2, rfl, hk2, hk2'⟩ := open_i64 (hval 2 _ _ rfl rfl) h2
  refine (lawAud_any A0 n0 c0 l0 a1 k2 W hR0 hV.vr hV.ten).mono fun e W' ⟨he, hb⟩ => ⟨_, he, ?_⟩
  exact law_post rfl rfl (by kernel_rfl) hW' ⟨rfl, rfl, rfl⟩ hb
theorem arrayAudiences_f1 : (Rows.arrayAudiencesRow.inPlace == Tryz.prog.inPlace 6) = true := by kernel_rfl
theorem arrayAudiences_f2 : Tryz.prog.unfollowed 6 = true := by kernel_rfl
theorem arrayAudiences_f3 : (Rows.arrayAudiencesRow.named == Tryz.prog.varsNamed 6) = true := by kernel_rfl
theorem arrayAudiences_f4 : (Rows.arrayAudiencesRow.recurses == Tryz.prog.recurses 6) = true := by kernel_rfl
theorem arrayAudiences_facts : joinedFacts Tryz.prog 6 Tryz.f6 Rows.arrayAudiencesSpec Rows.arrayAudiencesRow = true := by
  unfold joinedFacts
  rw [laidOut, fa1, fa4, fa5, fa6, fa7, fa8, arrayAudiences_f1, arrayAudiences_f2, arrayAudiences_f3, arrayAudiences_f4]
  kernel_rfl
theorem arrayAudiences_holds : Rows.ArrayAudiencesSaid :=
  OpenClaim.holds_of_wide 6 Tryz.f6 rfl rfl rfl rfl rfl rfl rfl ⟨rfl, rfl, rfl, rfl, rfl⟩ rfl rfl rfl rfl rfl (by kernel_rfl) Tryz.func6 arrayAudiences_facts
    (of_decide_eq_true (by kernel_rfl)) (by unfold Func.isWrapper; first | (rw [if_pos (by decide +kernel)]; kernel_rfl) | (rw [if_neg (by decide +kernel)]; exact ⟨rfl, rfl⟩))
    (fun os started H enc _ => arrayAudiences_lifted os started H enc)
theorem arrayAudiences_card_holds : Rows.ArrayAudiencesCardSaid :=
  Claim7.holds_tied_plain_at .later [] [.data, .data, .data, .data, .data] true (true, Rows.arrayAudiencesCard.stood.harness.2) true
    arrayAudiences_holds (fun _ h => by cases h) (by kernel_rfl) (fun _ h => by cases h) arrayAudiences_row_tie rfl ⟨rfl, rfl⟩ (by kernel_rfl) rfl
    (fun f fn hf hfn => by
      obtain rfl : f = 6 := Option.some.inj ((show Tryz.prog.funcNamed "woofer/wooferlaw06.ArrayAudiences" = some 6 by kernel_rfl).symm.trans hf) |>.symm
      obtain rfl : fn = Tryz.f6 := (Option.some.inj (Tryz.func6.symm.trans hfn)).symm
      exact ⟨by kernel_rfl, fun j t ht => by
        rw [Tryz.params6] at ht
        have hm : t ∈ [22, 64, 3] := by simpa using Array.mem_of_getElem? ht
        have hall : ([22, 64, 3].all fun u => !Tryz.prog.wantsStandIn u) = true := by kernel_rfl
        exact (show Tryz.prog.wantsStandIn t = false by simpa using List.all_eq_true.1 hall t hm)⟩)
    (by kernel_rfl)
#print axioms arrayAudiences_card_holds
end Go.Proofs.YtcihiglpahhboaaGreatDoor
