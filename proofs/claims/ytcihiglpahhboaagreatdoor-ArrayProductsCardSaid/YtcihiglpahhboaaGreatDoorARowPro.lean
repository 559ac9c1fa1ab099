/- ArrayProductsCardSaid: for every input the law ArrayProducts returns true, and its arguments read as before. No condition. -/
import Derived.Test.YtcihiglpahhboaaGreatDoorAFact
import Derived.Test.YtcihiglpahhboaaGreatDoorALift5
import Derived.Test.YtcihiglpahhboaaGreatDoorALawPro
namespace Go.Proofs.YtcihiglpahhboaaGreatDoor
open Go.ChangeShapes Go.WideShapes Go.ChangeAt Go.WideElems Go.RowKit
set_option maxRecDepth 100000

theorem arrayProducts_lifted (os : Os) (started : os.Started) (H : Type) (enc : TypeId × Value → H) :
    ReturnsInHanded {} Tryz.checked os 5 .any (fun w args => (Rows.arrayProductsSpec.pre enc Tryz.prog Tryz.f5 [] false w args ∧ laidMetH Tryz.prog layA w) ∧ sizedMet enc Tryz.prog Tryz.f5 (OpenSpec.ofChange Rows.arrayProductsSpec) false w args)
      (Rows.arrayProductsSpec.post enc Tryz.prog Tryz.f5 false true false false) := by
  refine returnsInHanded_of_change_and (C := Tryz.checked) (X := fun w _ => laidMetH Tryz.prog layA w) (fun _ _ _ hh h => h.of_heap hh) ownK started (by kernel_rfl) Tryz.func5
    (ChangeSpec.witness_shaped (enc := enc) (C := Tryz.checked) (os := os) (X := fun w _ => laidMetH Tryz.prog layA w) false (World.doorLaid Tryz.prog 400 os) #[.slice none 0 0, .slice none 0 0, .agg #[.int .u8 0, .int .u8 0, .int .u8 0]] 8 rfl (World.shaped_of_RefB (by kernel_rfl) (by kernel_rfl)) (by kernel_rfl) (by kernel_rfl) (by kernel_rfl) (door_metA os _)) ?_
  intro W base args ds gs before hval0 hW _ _ hL _
  have hval : ∀ (j : Nat) t v, Tryz.f5.params[j]? = some t → args[j]? = some v → Value.okWide Tryz.prog W .any base t v := hval0
  have hV := vars_ofA hL
  have hW' := hW
  obtain ⟨p, q, hA0, _, _, _, _⟩ := hW
  have hA : DataW.TrodAll enc Tryz.prog W 0 (fun _ => true) true Tryz.f5.params.toList args.toList ds p := hA0
  rw [Tryz.params5] at hA hval
  obtain ⟨v0, v1, v2, d0, d1, d2, p0, p1, p2, rfl, rfl, rfl, h0, h1, h2⟩ := trodAll_three hA
  obtain ⟨A0, n0, c0, l0, rfl, hm0, hR0⟩ := open_srcs (hval 0 _ _ rfl rfl) h0
  obtain ⟨A1, n1, c1, l1, rfl, hm1, hR1⟩ := open_srcs (hval 1 _ _ rfl rfl) h1
  obtain ⟨a2, b2, c2, ⟨ha2, hb2, hc2⟩, rfl⟩ := open_u3 (hval 2 _ _ rfl rfl) h2
  refine (lawPro_any A0 n0 c0 l0 A1 n1 c1 l1 a2 b2 c2 W hR0 hR1 ha2 hb2 hc2 hV.vr hV.ten).mono fun e W' ⟨he, hb⟩ => ⟨_, he, ?_⟩
  exact law_post rfl rfl (by kernel_rfl) hW' ⟨rfl, rfl, rfl⟩ hb
theorem arrayProducts_f1 : (Rows.arrayProductsRow.inPlace == Tryz.prog.inPlace 5) = true := by kernel_rfl
theorem arrayProducts_f2 : Tryz.prog.unfollowed 5 = true := by kernel_rfl
theorem arrayProducts_f3 : (Rows.arrayProductsRow.named == Tryz.prog.varsNamed 5) = true := by kernel_rfl
theorem arrayProducts_f4 : (Rows.arrayProductsRow.recurses == Tryz.prog.recurses 5) = true := by kernel_rfl
theorem arrayProducts_facts : joinedFacts Tryz.prog 5 Tryz.f5 Rows.arrayProductsSpec Rows.arrayProductsRow = true := by
  unfold joinedFacts
  rw [laidOut, fa1, fa4, fa5, fa6, fa7, fa8, arrayProducts_f1, arrayProducts_f2, arrayProducts_f3, arrayProducts_f4]
  kernel_rfl
theorem arrayProducts_holds : Rows.ArrayProductsSaid :=
  OpenClaim.holds_of_wide 5 Tryz.f5 rfl rfl rfl rfl rfl rfl rfl ⟨rfl, rfl, rfl, rfl, rfl⟩ rfl rfl rfl rfl rfl (by kernel_rfl) Tryz.func5 arrayProducts_facts
    (of_decide_eq_true (by kernel_rfl)) (by unfold Func.isWrapper; first | (rw [if_pos (by decide +kernel)]; kernel_rfl) | (rw [if_neg (by decide +kernel)]; exact ⟨rfl, rfl⟩))
    (fun os started H enc _ => arrayProducts_lifted os started H enc)
theorem arrayProducts_card_holds : Rows.ArrayProductsCardSaid :=
  Claim7.holds_tied_plain_at .later [] [.data, .data, .data, .data, .data] true (true, Rows.arrayProductsCard.stood.harness.2) true
    arrayProducts_holds (fun _ h => by cases h) (by kernel_rfl) (fun _ h => by cases h) arrayProducts_row_tie rfl ⟨rfl, rfl⟩ (by kernel_rfl) rfl
    (fun f fn hf hfn => by
      obtain rfl : f = 5 := Option.some.inj ((show Tryz.prog.funcNamed "woofer/wooferlaw06.ArrayProducts" = some 5 by kernel_rfl).symm.trans hf) |>.symm
      obtain rfl : fn = Tryz.f5 := (Option.some.inj (Tryz.func5.symm.trans hfn)).symm
      exact ⟨by kernel_rfl, fun j t ht => by
        rw [Tryz.params5] at ht
        have hm : t ∈ [22, 22, 52] := by simpa using Array.mem_of_getElem? ht
        have hall : ([22, 22, 52].all fun u => !Tryz.prog.wantsStandIn u) = true := by kernel_rfl
        exact (show Tryz.prog.wantsStandIn t = false by simpa using List.all_eq_true.1 hall t hm)⟩)
    (by kernel_rfl)
#print axioms arrayProducts_card_holds
end Go.Proofs.YtcihiglpahhboaaGreatDoor
