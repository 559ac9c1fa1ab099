/- SectionGoesOnCardSaid: for every input the law SectionGoesOn returns true, and its arguments read as before. No condition. -/
import Derived.Test.YtlaaajkehjoffaaDoorLiftD
import Derived.Test.YtlaaajkehjoffaaDoorLawGoes
namespace Go.Proofs.YtlaaajkehjoffaaDoor
open Go.ChangeShapes Go.WideShapes Go.ChangeAt Go.WideElems Go.RowKit
set_option maxRecDepth 100000

theorem sectionGoesOn_lifted (os : Os) (started : os.Started) (H : Type) (enc : TypeId × Value → H) :
    ReturnsInHanded {} Tryd.checked os 12 .any (fun w args => (Rows.sectionGoesOnSpec.pre enc Tryd.prog Tryd.f12 [] false w args ∧ laidMetH Tryd.prog lay4 w) ∧ sizedMet enc Tryd.prog Tryd.f12 (OpenSpec.ofChange Rows.sectionGoesOnSpec) false w args)
      (Rows.sectionGoesOnSpec.post enc Tryd.prog Tryd.f12 false true false false) := by
  refine returnsInHanded_of_change_and (C := Tryd.checked) (X := fun w _ => laidMetH Tryd.prog lay4 w) (fun _ _ _ hh h => h.of_heap hh) ownK started (by kernel_rfl) Tryd.func12
    (ChangeSpec.witness_shaped (enc := enc) (C := Tryd.checked) (os := os) (X := fun w _ => laidMetH Tryd.prog lay4 w) false (World.doorLaid Tryd.prog 400 os) #[.agg #[.int .i64 0, .int .i64 0, .int .i64 0, .int .i64 0, .int .i64 0, .int .i64 0, .int .i64 0, .int .i64 0, .int .i64 0, .int .i64 0, .int .i64 0, .int .i64 0], .slice none 0 0, .int .u8 0] 8 rfl (World.shaped_of_RefB (by kernel_rfl) (by kernel_rfl)) (by kernel_rfl) (by kernel_rfl) (by kernel_rfl) (door_met os _)) ?_
  intro W base args ds gs before hval0 hW _ _ hL _
  have hval : ∀ (j : Nat) t v, Tryd.f12.params[j]? = some t → args[j]? = some v → Value.okWide Tryd.prog W .any base t v := hval0
  have hV := vars_of hL
  have hW' := hW
  obtain ⟨p, q, hA0, _, _, _, _⟩ := hW
  have hA : DataW.TrodAll enc Tryd.prog W 0 (fun _ => true) true Tryd.f12.params.toList args.toList ds p := hA0
  rw [Tryd.params12] at hA hval
  obtain ⟨v0, v1, v2, d0, d1, d2, p0, p1, p2, rfl, rfl, rfl, h0, h1, h2⟩ := trodAll_three hA
  obtain ⟨s0, s1, rfl⟩ := open_sec2 (hval 0 _ _ rfl rfl) h0
  obtain ⟨A1, m1, c1, x1, rfl, hmc1, hcm1, hnil1, hR1⟩ := open_listc (hval 1 _ _ rfl rfl) h1
  obtain ⟨u, rfl, hu⟩ := open_u8 (hval 2 _ _ rfl rfl) h2
  refine (lawGoes_any s0 s1 A1 m1 c1 x1 u W hV hmc1 hcm1 hnil1 hu.1 hu.2 hR1).mono fun e W' ⟨he, hb⟩ => ⟨_, he, ?_⟩
  exact law_post rfl rfl (by kernel_rfl) hW' ⟨rfl, rfl, rfl⟩ hb
theorem sectionGoesOn_holds : Rows.SectionGoesOnSaid :=
  OpenClaim.holds_of_wide 12 Tryd.f12 rfl rfl rfl rfl rfl rfl rfl ⟨rfl, rfl, rfl, rfl, rfl⟩ rfl rfl rfl rfl rfl (by kernel_rfl) Tryd.func12 (by kernel_rfl)
    (of_decide_eq_true (by kernel_rfl)) (by unfold Func.isWrapper; first | (rw [if_pos (by decide +kernel)]; kernel_rfl) | (rw [if_neg (by decide +kernel)]; exact ⟨rfl, rfl⟩))
    (fun os started H enc _ => sectionGoesOn_lifted os started H enc)
theorem sectionGoesOn_card_holds : Rows.SectionGoesOnCardSaid :=
  Claim7.holds_tied_plain_at .later [] [.data, .data, .data, .data] true (true, Rows.sectionGoesOnCard.stood.harness.2) false
    sectionGoesOn_holds (fun _ h => by cases h) (by kernel_rfl) (fun _ h => by cases h) sectionGoesOn_row_tie rfl ⟨rfl, rfl⟩ (by kernel_rfl) rfl
    (fun f fn hf hfn => by
      obtain rfl : f = 12 := Option.some.inj ((show Tryd.prog.funcNamed "woofer/wooferlaw05.SectionGoesOn" = some 12 by kernel_rfl).symm.trans hf) |>.symm
      obtain rfl : fn = Tryd.f12 := (Option.some.inj (Tryd.func12.symm.trans hfn)).symm
      exact ⟨by kernel_rfl, fun j t ht => by
        rw [Tryd.params12] at ht
        have hm : t ∈ [101, 26, 5] := by simpa using Array.mem_of_getElem? ht
        have hall : ([101, 26, 5].all fun u => !Tryd.prog.wantsStandIn u) = true := by kernel_rfl
        exact (show Tryd.prog.wantsStandIn t = false by simpa using List.all_eq_true.1 hall t hm)⟩)
    (by kernel_rfl)
#print axioms sectionGoesOn_card_holds
end Go.Proofs.YtlaaajkehjoffaaDoor
