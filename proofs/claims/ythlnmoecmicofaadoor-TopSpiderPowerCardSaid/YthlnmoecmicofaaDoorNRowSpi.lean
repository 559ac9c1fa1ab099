/- TopSpiderPowerCardSaid: for every input the law TopSpiderPower returns true, and its arguments read as before. No condition. -/
import Derived.Test.YthlnmoecmicofaaDoorNLiftB
import Derived.Test.YthlnmoecmicofaaDoorNLawSpi
namespace Go.Proofs.YthlnmoecmicofaaDoor
open Go.ChangeShapes Go.WideShapes Go.ChangeAt Go.WideElems Go.RowKit
set_option maxRecDepth 100000

theorem topSpiderPower_lifted (os : Os) (started : os.Started) (H : Type) (enc : TypeId × Value → H) :
    ReturnsInHanded {} Tryd.checked os 3 .any (fun w args => (Rows.topSpiderPowerSpec.pre enc Tryd.prog Tryd.f3 [] false w args ∧ laidMetH Tryd.prog layS w) ∧ sizedMet enc Tryd.prog Tryd.f3 (OpenSpec.ofChange Rows.topSpiderPowerSpec) false w args)
      (Rows.topSpiderPowerSpec.post enc Tryd.prog Tryd.f3 false true false false) := by
  refine returnsInHanded_of_change_and (C := Tryd.checked) (X := fun w _ => laidMetH Tryd.prog layS w) (fun _ _ _ hh h => h.of_heap hh) ownK started (by kernel_rfl) Tryd.func3
    (ChangeSpec.witness_shaped (enc := enc) (C := Tryd.checked) (os := os) (X := fun w _ => laidMetH Tryd.prog layS w) false (World.doorLaid Tryd.prog 400 os) #[.slice none 0 0, .agg #[.int .i64 0, .int .i64 0, .int .i64 0, .int .i64 0, .int .i64 0, .int .i64 0], .int .i64 0] 8 rfl (World.shaped_of_RefB (by kernel_rfl) (by kernel_rfl)) (by kernel_rfl) (by kernel_rfl) (by kernel_rfl) (door_metS os _)) ?_
  intro W base args ds gs before hval0 hW _ _ hL _
  have hval : ∀ (j : Nat) t v, Tryd.f3.params[j]? = some t → args[j]? = some v → Value.okWide Tryd.prog W .any base t v := hval0
  have hV := vars_ofS hL
  have hW' := hW
  obtain ⟨p, q, hA0, _, _, _, _⟩ := hW
  have hA : DataW.TrodAll enc Tryd.prog W 0 (fun _ => true) true Tryd.f3.params.toList args.toList ds p := hA0
  rw [Tryd.params3] at hA hval
  obtain ⟨v0, v1, v2, d0, d1, d2, p0, p1, p2, rfl, rfl, rfl, h0, h1, h2⟩ := trodAll_three hA
  obtain ⟨A, m, c, l, rfl, _, hR⟩ := open_els (hval 0 _ _ rfl rfl) h0
  obtain ⟨d, rfl⟩ := open_drv (hval 1 _ _ rfl rfl) h1
  obtain ⟨f, rfl, _, _⟩ := open_i64 (hval 2 _ _ rfl rfl) h2
  refine (lawSpi_any A m c l d f W hV.1 hV.2 hR).mono fun e W' ⟨he, hb⟩ => ⟨_, he, ?_⟩
  exact law_post rfl rfl (by kernel_rfl) hW' ⟨rfl, rfl, rfl⟩ hb
theorem topSpiderPower_holds : Rows.TopSpiderPowerSaid :=
  OpenClaim.holds_of_wide 3 Tryd.f3 rfl rfl rfl rfl rfl rfl rfl ⟨rfl, rfl, rfl, rfl, rfl⟩ rfl rfl rfl rfl rfl (by kernel_rfl) Tryd.func3 (by kernel_rfl)
    (of_decide_eq_true (by kernel_rfl)) (by unfold Func.isWrapper; first | (rw [if_pos (by decide +kernel)]; kernel_rfl) | (rw [if_neg (by decide +kernel)]; exact ⟨rfl, rfl⟩))
    (fun os started H enc _ => topSpiderPower_lifted os started H enc)
theorem topSpiderPower_card_holds : Rows.TopSpiderPowerCardSaid :=
  Claim7.holds_tied_plain_at .later [] [.data, .data, .data] true (true, Rows.topSpiderPowerCard.stood.harness.2) false
    topSpiderPower_holds (fun _ h => by cases h) (by kernel_rfl) (fun _ h => by cases h) topSpiderPower_row_tie rfl ⟨rfl, rfl⟩ (by kernel_rfl) rfl
    (fun f fn hf hfn => by
      obtain rfl : f = 3 := Option.some.inj ((show Tryd.prog.funcNamed "woofer/woofertop.TopSpiderPower" = some 3 by kernel_rfl).symm.trans hf) |>.symm
      obtain rfl : fn = Tryd.f3 := (Option.some.inj (Tryd.func3.symm.trans hfn)).symm
      exact ⟨by kernel_rfl, fun j t ht => by
        rw [Tryd.params3] at ht
        have hm : t ∈ [22, 24, 3] := by simpa using Array.mem_of_getElem? ht
        have hall : ([22, 24, 3].all fun u => !Tryd.prog.wantsStandIn u) = true := by kernel_rfl
        exact (show Tryd.prog.wantsStandIn t = false by simpa using List.all_eq_true.1 hall t hm)⟩)
    (by kernel_rfl)
#print axioms topSpiderPower_card_holds
end Go.Proofs.YthlnmoecmicofaaDoor
