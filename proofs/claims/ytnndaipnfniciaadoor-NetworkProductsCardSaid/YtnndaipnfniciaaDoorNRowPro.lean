/- NetworkProductsCardSaid: for every input the law NetworkProducts returns true, and its arguments read as before. No condition. -/
import Derived.Test.YtnndaipnfniciaaDoorNLiftN
import Derived.Test.YtnndaipnfniciaaDoorNLiftM
import Derived.Test.YtnndaipnfniciaaDoorNLawPro
namespace Go.Proofs.YtnndaipnfniciaaDoor
open Go.ChangeShapes Go.WideShapes Go.ChangeAt Go.WideElems Go.RowKit
set_option maxRecDepth 100000

theorem networkProducts_lifted (os : Os) (started : os.Started) (H : Type) (enc : TypeId × Value → H) :
    ReturnsInHanded {} Tryd.checked os 4 .any (fun w args => (Rows.networkProductsSpec.pre enc Tryd.prog Tryd.f4 [] false w args ∧ laidMetH Tryd.prog layN w) ∧ sizedMet enc Tryd.prog Tryd.f4 (OpenSpec.ofChange Rows.networkProductsSpec) false w args)
      (Rows.networkProductsSpec.post enc Tryd.prog Tryd.f4 false true false false) := by
  refine returnsInHanded_of_change_and (C := Tryd.checked) (X := fun w _ => laidMetH Tryd.prog layN w) (fun _ _ _ hh h => h.of_heap hh) ownK started (by kernel_rfl) Tryd.func4
    (ChangeSpec.witness_shaped (enc := enc) (C := Tryd.checked) (os := os) (X := fun w _ => laidMetH Tryd.prog layN w) false (World.doorLaid Tryd.prog 400 os) #[.agg #[.int .i64 0, .int .i64 0, .int .i64 0, .int .i64 0, .int .i64 0, .int .i64 0, .int .i64 0, .int .i64 0], .agg #[.int .i64 0, .int .i64 0, .int .i64 0, .int .i64 0, .int .i64 0, .int .i64 0, .int .i64 0, .int .i64 0]] 8 rfl (World.shaped_of_RefB (by kernel_rfl) (by kernel_rfl)) (by kernel_rfl) (by kernel_rfl) (by kernel_rfl) (door_metN os _)) ?_
  intro W base args ds gs before hval0 hW _ _ hL _
  have hval : ∀ (j : Nat) t v, Tryd.f4.params[j]? = some t → args[j]? = some v → Value.okWide Tryd.prog W .any base t v := hval0
  have hV := vars_ofN hL
  have hW' := hW
  obtain ⟨p, q, hA0, _, _, _, _⟩ := hW
  have hA : DataW.TrodAll enc Tryd.prog W 0 (fun _ => true) true Tryd.f4.params.toList args.toList ds p := hA0
  rw [Tryd.params4] at hA hval
  obtain ⟨v0, v1, d0, d1, p0, p1, rfl, rfl, rfl, h0, h1⟩ := trodAll_two hA
  obtain ⟨M0, rfl⟩ := open_mat (hval 0 _ _ rfl rfl) h0
  obtain ⟨M1, rfl⟩ := open_mat (hval 1 _ _ rfl rfl) h1
  refine (lawPro_any M0 M1 W hV).mono fun e W' ⟨he, hb⟩ => ⟨_, he, ?_⟩
  exact law_post rfl rfl (by kernel_rfl) hW' ⟨rfl, rfl, rfl⟩ hb
theorem networkProducts_holds : Rows.NetworkProductsSaid :=
  OpenClaim.holds_of_wide 4 Tryd.f4 rfl rfl rfl rfl rfl rfl rfl ⟨rfl, rfl, rfl, rfl, rfl⟩ rfl rfl rfl rfl rfl (by kernel_rfl) Tryd.func4 (by kernel_rfl)
    (of_decide_eq_true (by kernel_rfl)) (by unfold Func.isWrapper; first | (rw [if_pos (by decide +kernel)]; kernel_rfl) | (rw [if_neg (by decide +kernel)]; exact ⟨rfl, rfl⟩))
    (fun os started H enc _ => networkProducts_lifted os started H enc)
theorem networkProducts_card_holds : Rows.NetworkProductsCardSaid :=
  Claim7.holds_tied_plain_at .later [] [.data, .data, .data, .data, .data, .data] true (true, Rows.networkProductsCard.stood.harness.2) false
    networkProducts_holds (fun _ h => by cases h) (by kernel_rfl) (fun _ h => by cases h) networkProducts_row_tie rfl ⟨rfl, rfl⟩ (by kernel_rfl) rfl
    (fun f fn hf hfn => by
      obtain rfl : f = 4 := Option.some.inj ((show Tryd.prog.funcNamed "woofer/wooferlaw02.NetworkProducts" = some 4 by kernel_rfl).symm.trans hf) |>.symm
      obtain rfl : fn = Tryd.f4 := (Option.some.inj (Tryd.func4.symm.trans hfn)).symm
      exact ⟨by kernel_rfl, fun j t ht => by
        rw [Tryd.params4] at ht
        have hm : t ∈ [55, 55] := by simpa using Array.mem_of_getElem? ht
        have hall : ([55, 55].all fun u => !Tryd.prog.wantsStandIn u) = true := by kernel_rfl
        exact (show Tryd.prog.wantsStandIn t = false by simpa using List.all_eq_true.1 hall t hm)⟩)
    (by kernel_rfl)
#print axioms networkProducts_card_holds
end Go.Proofs.YtnndaipnfniciaaDoor
