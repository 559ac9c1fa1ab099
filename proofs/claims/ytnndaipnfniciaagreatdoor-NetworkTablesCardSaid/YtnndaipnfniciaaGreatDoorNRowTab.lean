/- NetworkTablesCardSaid: for every input the law NetworkTables returns true, and its arguments read as before. No condition. -/
import Derived.Test.YtnndaipnfniciaaGreatDoorNLiftN
import Derived.Test.YtnndaipnfniciaaGreatDoorNLiftP
import Derived.Test.YtnndaipnfniciaaGreatDoorNLawTab
namespace Go.Proofs.YtnndaipnfniciaaGreatDoor
open Go.ChangeShapes Go.WideShapes Go.ChangeAt Go.WideElems Go.RowKit
set_option maxRecDepth 100000

theorem networkTables_lifted (os : Os) (started : os.Started) (H : Type) (enc : TypeId × Value → H) :
    ReturnsInHanded {} Tryz.checked os 5 .any (fun w args => (Rows.networkTablesSpec.pre enc Tryz.prog Tryz.f5 [] false w args ∧ laidMetH Tryz.prog layN w) ∧ sizedMet enc Tryz.prog Tryz.f5 (OpenSpec.ofChange Rows.networkTablesSpec) false w args)
      (Rows.networkTablesSpec.post enc Tryz.prog Tryz.f5 false true false false) := by
  refine returnsInHanded_of_change_and (C := Tryz.checked) (X := fun w _ => laidMetH Tryz.prog layN w) (fun _ _ _ hh h => h.of_heap hh) ownK started (by kernel_rfl) Tryz.func5
    (ChangeSpec.witness_shaped (enc := enc) (C := Tryz.checked) (os := os) (X := fun w _ => laidMetH Tryz.prog layN w) false (World.doorLaid Tryz.prog 400 os) #[.slice none 0 0, .agg #[.int .i64 0, .int .i64 0, .int .i64 0, .int .i64 0]] 8 rfl (World.shaped_of_RefB (by kernel_rfl) (by kernel_rfl)) (by kernel_rfl) (by kernel_rfl) (by kernel_rfl) (door_metN os _)) ?_
  intro W base args ds gs before hval0 hW _ _ hL _
  have hval : ∀ (j : Nat) t v, Tryz.f5.params[j]? = some t → args[j]? = some v → Value.okWide Tryz.prog W .any base t v := hval0
  have hV := vars_ofN hL
  have hW' := hW
  obtain ⟨p, q, hA0, _, _, _, _⟩ := hW
  have hA : DataW.TrodAll enc Tryz.prog W 0 (fun _ => true) true Tryz.f5.params.toList args.toList ds p := hA0
  rw [Tryz.params5] at hA hval
  obtain ⟨v0, v1, d0, d1, p0, p1, rfl, rfl, rfl, h0, h1⟩ := trodAll_two hA
  obtain ⟨A0, n0, c0, l0, rfl, hm0, hR0⟩ := open_els (hval 0 _ _ rfl rfl) h0
  obtain ⟨ba1, bb1, bc1, rfl⟩ := open_band (hval 1 _ _ rfl rfl) h1
  refine (lawTab_any A0 n0 c0 l0 ba1 bb1 bc1 W hV hR0).mono fun e W' ⟨he, hb⟩ => ⟨_, he, ?_⟩
  exact law_post rfl rfl (by kernel_rfl) hW' ⟨rfl, rfl, rfl⟩ hb
theorem networkTables_holds : Rows.NetworkTablesSaid :=
  OpenClaim.holds_of_wide 5 Tryz.f5 rfl rfl rfl rfl rfl rfl rfl ⟨rfl, rfl, rfl, rfl, rfl⟩ rfl rfl rfl rfl rfl (by kernel_rfl) Tryz.func5 (by kernel_rfl)
    (of_decide_eq_true (by kernel_rfl)) (by unfold Func.isWrapper; first | (rw [if_pos (by decide +kernel)]; kernel_rfl) | (rw [if_neg (by decide +kernel)]; exact ⟨rfl, rfl⟩))
    (fun os started H enc _ => networkTables_lifted os started H enc)
theorem networkTables_card_holds : Rows.NetworkTablesCardSaid :=
  Claim7.holds_tied_plain_at .later [] [.data, .data, .data, .data, .data, .data] true (true, Rows.networkTablesCard.stood.harness.2) true
    networkTables_holds (fun _ h => by cases h) (by kernel_rfl) (fun _ h => by cases h) networkTables_row_tie rfl ⟨rfl, rfl⟩ (by kernel_rfl) rfl
    (fun f fn hf hfn => by
      obtain rfl : f = 5 := Option.some.inj ((show Tryz.prog.funcNamed "woofer/wooferlaw02.NetworkTables" = some 5 by kernel_rfl).symm.trans hf) |>.symm
      obtain rfl : fn = Tryz.f5 := (Option.some.inj (Tryz.func5.symm.trans hfn)).symm
      exact ⟨by kernel_rfl, fun j t ht => by
        rw [Tryz.params5] at ht
        have hm : t ∈ [42, 56] := by simpa using Array.mem_of_getElem? ht
        have hall : ([42, 56].all fun u => !Tryz.prog.wantsStandIn u) = true := by kernel_rfl
        exact (show Tryz.prog.wantsStandIn t = false by simpa using List.all_eq_true.1 hall t hm)⟩)
    (by kernel_rfl)
#print axioms networkTables_card_holds
end Go.Proofs.YtnndaipnfniciaaGreatDoor
