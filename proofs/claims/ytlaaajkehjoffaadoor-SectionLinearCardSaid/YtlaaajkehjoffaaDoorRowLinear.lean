/- SectionLinearCardSaid: for every input the law SectionLinear returns true, and its arguments read as before. No condition. -/
import Derived.Test.YtlaaajkehjoffaaDoorLiftB
import Derived.Test.YtlaaajkehjoffaaDoorLawLinear
namespace Go.Proofs.YtlaaajkehjoffaaDoor
open Go.ChangeShapes Go.WideShapes Go.ChangeAt Go.WideElems Go.RowKit
set_option maxRecDepth 100000

theorem sectionLinear_lifted (os : Os) (started : os.Started) (H : Type) (enc : TypeId × Value → H) :
    ReturnsInHanded {} Tryd.checked os 7 .any (fun w args => (Rows.sectionLinearSpec.pre enc Tryd.prog Tryd.f7 [] false w args ∧ laidMetH Tryd.prog lay4 w) ∧ sizedMet enc Tryd.prog Tryd.f7 (OpenSpec.ofChange Rows.sectionLinearSpec) false w args)
      (Rows.sectionLinearSpec.post enc Tryd.prog Tryd.f7 false true false false) := by
  refine returnsInHanded_of_change_and (C := Tryd.checked) (X := fun w _ => laidMetH Tryd.prog lay4 w) (fun _ _ _ hh h => h.of_heap hh) ownK started (by kernel_rfl) Tryd.func7
    (ChangeSpec.witness_shaped (enc := enc) (C := Tryd.checked) (os := os) (X := fun w _ => laidMetH Tryd.prog lay4 w) false (World.doorLaid Tryd.prog 400 os) #[.agg #[.int .i64 0, .int .i64 0, .int .i64 0, .int .i64 0, .int .i64 0, .int .i64 0], .slice none 0 0, .slice none 0 0] 8 rfl (World.shaped_of_RefB (by kernel_rfl) (by kernel_rfl)) (by kernel_rfl) (by kernel_rfl) (by kernel_rfl) (door_met os _)) ?_
  intro W base args ds gs before hval0 hW _ _ hL _
  have hval : ∀ (j : Nat) t v, Tryd.f7.params[j]? = some t → args[j]? = some v → Value.okWide Tryd.prog W .any base t v := hval0
  have hV := vars_of hL
  have hW' := hW
  obtain ⟨p, q, hA0, _, _, _, _⟩ := hW
  have hA : DataW.TrodAll enc Tryd.prog W 0 (fun _ => true) true Tryd.f7.params.toList args.toList ds p := hA0
  rw [Tryd.params7] at hA hval
  obtain ⟨v0, v1, v2, d0, d1, d2, p0, p1, p2, rfl, rfl, rfl, h0, h1, h2⟩ := trodAll_three hA
  obtain ⟨s, rfl⟩ := open_sec (hval 0 _ _ rfl rfl) h0
  obtain ⟨A1, m1, c1, x1, rfl, hm1, hR1⟩ := open_list (hval 1 _ _ rfl rfl) h1
  obtain ⟨A2, m2, c2, x2, rfl, hm2, hR2⟩ := open_list (hval 2 _ _ rfl rfl) h2
  refine (lawLinear_any s A1 m1 c1 x1 A2 m2 c2 x2 W hV (by unfold maxLen at hm1; omega) (by unfold maxLen at hm2; omega) hR1 hR2).mono fun e W' ⟨he, hb⟩ => ⟨_, he, ?_⟩
  exact law_post rfl rfl (by kernel_rfl) hW' ⟨rfl, rfl, rfl⟩ hb
theorem sectionLinear_holds : Rows.SectionLinearSaid :=
  OpenClaim.holds_of_wide 7 Tryd.f7 rfl rfl rfl rfl rfl rfl rfl ⟨rfl, rfl, rfl, rfl, rfl⟩ rfl rfl rfl rfl rfl (by kernel_rfl) Tryd.func7 (by kernel_rfl)
    (of_decide_eq_true (by kernel_rfl)) (by unfold Func.isWrapper; first | (rw [if_pos (by decide +kernel)]; kernel_rfl) | (rw [if_neg (by decide +kernel)]; exact ⟨rfl, rfl⟩))
    (fun os started H enc _ => sectionLinear_lifted os started H enc)
theorem sectionLinear_card_holds : Rows.SectionLinearCardSaid :=
  Claim7.holds_tied_plain_at .later [] [.data, .data, .data, .data] true (true, Rows.sectionLinearCard.stood.harness.2) false
    sectionLinear_holds (fun _ h => by cases h) (by kernel_rfl) (fun _ h => by cases h) sectionLinear_row_tie rfl ⟨rfl, rfl⟩ (by kernel_rfl) rfl
    (fun f fn hf hfn => by
      obtain rfl : f = 7 := Option.some.inj ((show Tryd.prog.funcNamed "woofer/wooferlaw05.SectionLinear" = some 7 by kernel_rfl).symm.trans hf) |>.symm
      obtain rfl : fn = Tryd.f7 := (Option.some.inj (Tryd.func7.symm.trans hfn)).symm
      exact ⟨by kernel_rfl, fun j t ht => by
        rw [Tryd.params7] at ht
        have hm : t ∈ [23, 26, 26] := by simpa using Array.mem_of_getElem? ht
        have hall : ([23, 26, 26].all fun u => !Tryd.prog.wantsStandIn u) = true := by kernel_rfl
        exact (show Tryd.prog.wantsStandIn t = false by simpa using List.all_eq_true.1 hall t hm)⟩)
    (by kernel_rfl)
#print axioms sectionLinear_card_holds
end Go.Proofs.YtlaaajkehjoffaaDoor
