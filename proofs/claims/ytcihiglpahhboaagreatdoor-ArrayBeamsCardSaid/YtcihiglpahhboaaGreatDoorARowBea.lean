/- ArrayBeamsCardSaid: for every input the law ArrayBeams returns true, and its arguments read as before. No condition. -/
import Derived.Test.YtcihiglpahhboaaGreatDoorAFact
import Derived.Test.YtcihiglpahhboaaGreatDoorALift5
import Derived.Test.YtcihiglpahhboaaGreatDoorALawBea
namespace Go.Proofs.YtcihiglpahhboaaGreatDoor
open Go.ChangeShapes Go.WideShapes Go.ChangeAt Go.WideElems Go.RowKit
set_option maxRecDepth 100000

theorem arrayBeams_lifted (os : Os) (started : os.Started) (H : Type) (enc : TypeId × Value → H) :
    ReturnsInHanded {} Tryz.checked os 7 .any (fun w args => (Rows.arrayBeamsSpec.pre enc Tryz.prog Tryz.f7 [] false w args ∧ laidMetH Tryz.prog layA w) ∧ sizedMet enc Tryz.prog Tryz.f7 (OpenSpec.ofChange Rows.arrayBeamsSpec) false w args)
      (Rows.arrayBeamsSpec.post enc Tryz.prog Tryz.f7 false true false false) := by
  refine returnsInHanded_of_change_and (C := Tryz.checked) (X := fun w _ => laidMetH Tryz.prog layA w) (fun _ _ _ hh h => h.of_heap hh) ownK started (by kernel_rfl) Tryz.func7
    (ChangeSpec.witness_shaped (enc := enc) (C := Tryz.checked) (os := os) (X := fun w _ => laidMetH Tryz.prog layA w) false (World.doorLaid Tryz.prog 400 os) #[.slice none 0 0, .agg #[.int .i64 0, .int .i64 0, .int .i64 0, .int .i64 0, .int .i64 0, .int .i64 0, .int .i64 0, .int .i64 0], .agg #[.int .u8 0, .int .u8 0, .int .u8 0, .int .u8 0]] 8 rfl (World.shaped_of_RefB (by kernel_rfl) (by kernel_rfl)) (by kernel_rfl) (by kernel_rfl) (by kernel_rfl) (door_metA os _)) ?_
  intro W base args ds gs before hval0 hW _ _ hL _
  have hval : ∀ (j : Nat) t v, Tryz.f7.params[j]? = some t → args[j]? = some v → Value.okWide Tryz.prog W .any base t v := hval0
  have hV := vars_ofA hL
  have hW' := hW
  obtain ⟨p, q, hA0, _, _, _, _⟩ := hW
  have hA : DataW.TrodAll enc Tryz.prog W 0 (fun _ => true) true Tryz.f7.params.toList args.toList ds p := hA0
  rw [Tryz.params7] at hA hval
  obtain ⟨v0, v1, v2, d0, d1, d2, p0, p1, p2, rfl, rfl, rfl, h0, h1, h2⟩ := trodAll_three hA
  obtain ⟨A0, n0, c0, l0, rfl, hm0, hR0⟩ := open_srcs (hval 0 _ _ rfl rfl) h0
  obtain ⟨a1, rfl⟩ := open_au (hval 1 _ _ rfl rfl) h1
  obtain ⟨a2, b2, c2, e2, ⟨ha2, hb2, hc2, he2⟩, rfl⟩ := open_u4 (hval 2 _ _ rfl rfl) h2
  refine (lawBea_any A0 n0 c0 l0 a1 a2 b2 c2 e2 W hR0 ha2 hb2 hc2 he2 hV.vr hV.ten).mono fun e W' ⟨he, hb⟩ => ⟨_, he, ?_⟩
  exact law_post rfl rfl (by kernel_rfl) hW' ⟨rfl, rfl, rfl⟩ hb
theorem arrayBeams_f1 : (Rows.arrayBeamsRow.inPlace == Tryz.prog.inPlace 7) = true := by kernel_rfl
theorem arrayBeams_f2 : Tryz.prog.unfollowed 7 = true := by kernel_rfl
theorem arrayBeams_f3 : (Rows.arrayBeamsRow.named == Tryz.prog.varsNamed 7) = true := by kernel_rfl
theorem arrayBeams_f4 : (Rows.arrayBeamsRow.recurses == Tryz.prog.recurses 7) = true := by kernel_rfl
theorem arrayBeams_facts : joinedFacts Tryz.prog 7 Tryz.f7 Rows.arrayBeamsSpec Rows.arrayBeamsRow = true := by
  unfold joinedFacts
  rw [laidOut, fa1, fa4, fa5, fa6, fa7, fa8, arrayBeams_f1, arrayBeams_f2, arrayBeams_f3, arrayBeams_f4]
  kernel_rfl
theorem arrayBeams_holds : Rows.ArrayBeamsSaid :=
  OpenClaim.holds_of_wide 7 Tryz.f7 rfl rfl rfl rfl rfl rfl rfl ⟨rfl, rfl, rfl, rfl, rfl⟩ rfl rfl rfl rfl rfl (by kernel_rfl) Tryz.func7 arrayBeams_facts
    (of_decide_eq_true (by kernel_rfl)) (by unfold Func.isWrapper; first | (rw [if_pos (by decide +kernel)]; kernel_rfl) | (rw [if_neg (by decide +kernel)]; exact ⟨rfl, rfl⟩))
    (fun os started H enc _ => arrayBeams_lifted os started H enc)
theorem arrayBeams_card_holds : Rows.ArrayBeamsCardSaid :=
  Claim7.holds_tied_plain_at .later [] [.data, .data, .data, .data, .data] true (true, Rows.arrayBeamsCard.stood.harness.2) true
    arrayBeams_holds (fun _ h => by cases h) (by kernel_rfl) (fun _ h => by cases h) arrayBeams_row_tie rfl ⟨rfl, rfl⟩ (by kernel_rfl) rfl
    (fun f fn hf hfn => by
      obtain rfl : f = 7 := Option.some.inj ((show Tryz.prog.funcNamed "woofer/wooferlaw06.ArrayBeams" = some 7 by kernel_rfl).symm.trans hf) |>.symm
      obtain rfl : fn = Tryz.f7 := (Option.some.inj (Tryz.func7.symm.trans hfn)).symm
      exact ⟨by kernel_rfl, fun j t ht => by
        rw [Tryz.params7] at ht
        have hm : t ∈ [22, 64, 77] := by simpa using Array.mem_of_getElem? ht
        have hall : ([22, 64, 77].all fun u => !Tryz.prog.wantsStandIn u) = true := by kernel_rfl
        exact (show Tryz.prog.wantsStandIn t = false by simpa using List.all_eq_true.1 hall t hm)⟩)
    (by kernel_rfl)
#print axioms arrayBeams_card_holds
end Go.Proofs.YtcihiglpahhboaaGreatDoor
