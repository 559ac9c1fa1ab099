/- ArrayTextsCardSaid: for every input the law ArrayTexts returns true, and its arguments read as before. No condition. -/
import Derived.Test.YtcihiglpahhboaaGreatDoorAFact
import Derived.Test.YtcihiglpahhboaaGreatDoorALiftT
import Derived.Test.YtcihiglpahhboaaGreatDoorALawTxt
namespace Go.Proofs.YtcihiglpahhboaaGreatDoor
open Go.ChangeShapes Go.WideShapes Go.ChangeAt Go.WideElems Go.RowKit Go.ChangeMaps
set_option maxRecDepth 100000

theorem arrayTexts_lifted (os : Os) (started : os.Started) (H : Type) (enc : TypeId × Value → H) :
    ReturnsInHanded {} Tryz.checked os 15 .any (fun w args => (Rows.arrayTextsSpec.pre enc Tryz.prog Tryz.f15 [] false w args ∧ laidMetH Tryz.prog layT w) ∧ sizedMet enc Tryz.prog Tryz.f15 (OpenSpec.ofChange Rows.arrayTextsSpec) false w args)
      (Rows.arrayTextsSpec.post enc Tryz.prog Tryz.f15 false true false false) := by
  refine returnsInHanded_andS (C := Tryz.checked) (X := fun w _ => laidMetH Tryz.prog layT w) (fun _ _ _ hh h => h.of_heap hh) ownK started (by kernel_rfl) Tryz.func15
    (ChangeSpec.witness_shaped (enc := enc) (C := Tryz.checked) (os := os) (X := fun w _ => laidMetH Tryz.prog layT w) false (World.laidAll Tryz.prog os layT) #[.slice none 0 0, .string ⟨#[]⟩] 8 (World.laidAll_os _ _ _) (World.shaped_of_ZipB (by kernel_rfl) (by kernel_rfl)) (by kernel_rfl) (by kernel_rfl) (by kernel_rfl) (met_T os _)) ?_
  intro W base args ds gs before hval0 hW hL hsh
  have hval : ∀ (j : Nat) t v, Tryz.f15.params[j]? = some t → args[j]? = some v → Value.okWide Tryz.prog W .any base t v := hval0
  have hV := vars_ofT hL hsh
  have hW' := hW
  obtain ⟨p, q, hA0, _, _, _, _⟩ := hW
  have hA : DataW.TrodAll enc Tryz.prog W 0 (fun _ => true) true Tryz.f15.params.toList args.toList ds p := hA0
  rw [Tryz.params15] at hA hval
  obtain ⟨v0, v1, d0, d1, p0, p1, rfl, rfl, rfl, h0, h1⟩ := trodAll_two hA
  obtain ⟨A0, n0, c0, l0, rfl, hm0, hR0⟩ := open_srcs (hval 0 _ _ rfl rfl) h0
  obtain ⟨s1, rfl, _, _, hs1⟩ := open_string Tryz.underlying9 (hval 1 _ _ rfl rfl) h1
  refine (lawTxt_any A0 n0 c0 l0 s1 W hR0 hV).mono fun e W' ⟨he, hb⟩ => ⟨_, he, ?_⟩
  exact law_post rfl rfl (by kernel_rfl) hW' ⟨rfl, rfl, rfl⟩ hb
theorem arrayTexts_f1 : (Rows.arrayTextsRow.inPlace == Tryz.prog.inPlace 15) = true := by kernel_rfl
theorem arrayTexts_f2 : Tryz.prog.unfollowed 15 = true := by kernel_rfl
theorem arrayTexts_f3 : (Rows.arrayTextsRow.named == Tryz.prog.varsNamed 15) = true := by kernel_rfl
theorem arrayTexts_f4 : (Rows.arrayTextsRow.recurses == Tryz.prog.recurses 15) = true := by kernel_rfl
theorem arrayTexts_facts : joinedFacts Tryz.prog 15 Tryz.f15 Rows.arrayTextsSpec Rows.arrayTextsRow = true := by
  unfold joinedFacts
  rw [laidOut, fa1, fa4, fa5, fa6, fa7, fa8, arrayTexts_f1, arrayTexts_f2, arrayTexts_f3, arrayTexts_f4]
  kernel_rfl
theorem arrayTexts_holds : Rows.ArrayTextsSaid :=
  OpenClaim.holds_of_wide 15 Tryz.f15 rfl rfl rfl rfl rfl rfl rfl ⟨rfl, rfl, rfl, rfl, rfl⟩ rfl rfl rfl rfl rfl (by kernel_rfl) Tryz.func15 arrayTexts_facts
    (of_decide_eq_true (by kernel_rfl)) (by unfold Func.isWrapper; first | (rw [if_pos (by decide +kernel)]; kernel_rfl) | (rw [if_neg (by decide +kernel)]; exact ⟨rfl, rfl⟩))
    (fun os started H enc _ => arrayTexts_lifted os started H enc)
theorem arrayTexts_card_holds : Rows.ArrayTextsCardSaid :=
  Claim7.holds_tied_plain_at .later [] [.data, .data, .data, .data, .sentinel, .sentinel, .data, .data, .pinned] true (true, Rows.arrayTextsCard.stood.harness.2) true
    arrayTexts_holds (fun _ h => by cases h) (by kernel_rfl) (fun _ h => by cases h) arrayTexts_row_tie rfl ⟨rfl, rfl⟩ (by kernel_rfl) rfl
    (fun f fn hf hfn => by
      obtain rfl : f = 15 := Option.some.inj ((show Tryz.prog.funcNamed "woofer/wooferlaw06.ArrayTexts" = some 15 by kernel_rfl).symm.trans hf) |>.symm
      obtain rfl : fn = Tryz.f15 := (Option.some.inj (Tryz.func15.symm.trans hfn)).symm
      exact ⟨by kernel_rfl, fun j t ht => by
        rw [Tryz.params15] at ht
        have hm : t ∈ [22, 9] := by simpa using Array.mem_of_getElem? ht
        have hall : ([22, 9].all fun u => !Tryz.prog.wantsStandIn u) = true := by kernel_rfl
        exact (show Tryz.prog.wantsStandIn t = false by simpa using List.all_eq_true.1 hall t hm)⟩)
    (by kernel_rfl)
#print axioms arrayTexts_card_holds
end Go.Proofs.YtcihiglpahhboaaGreatDoor
