/- ArrayBackCardSaid: for every input the law ArrayBack returns true, and its arguments read as before. No condition. -/
import Derived.Test.YtcihiglpahhboaaGreatDoorAFact
import Derived.Test.YtcihiglpahhboaaGreatDoorALiftT
import Derived.Test.YtcihiglpahhboaaGreatDoorALawBck
namespace Go.Proofs.YtcihiglpahhboaaGreatDoor
open Go.ChangeShapes Go.WideShapes Go.ChangeAt Go.WideElems Go.RowKit Go.ChangeMaps
set_option maxRecDepth 100000

theorem arrayBack_lifted (os : Os) (started : os.Started) (H : Type) (enc : TypeId × Value → H) :
    ReturnsInHanded {} Tryz.checked os 16 .any (fun w args => (Rows.arrayBackSpec.pre enc Tryz.prog Tryz.f16 [] false w args ∧ laidMetH Tryz.prog layT w) ∧ sizedMet enc Tryz.prog Tryz.f16 (OpenSpec.ofChange Rows.arrayBackSpec) false w args)
      (Rows.arrayBackSpec.post enc Tryz.prog Tryz.f16 false true false false) := by
  refine returnsInHanded_andS (C := Tryz.checked) (X := fun w _ => laidMetH Tryz.prog layT w) (fun _ _ _ hh h => h.of_heap hh) ownK started (by kernel_rfl) Tryz.func16
    (ChangeSpec.witness_shaped (enc := enc) (C := Tryz.checked) (os := os) (X := fun w _ => laidMetH Tryz.prog layT w) false (World.laidAll Tryz.prog os layT) #[.slice none 0 0, .string ⟨#[]⟩] 8 (World.laidAll_os _ _ _) (World.shaped_of_ZipB (by kernel_rfl) (by kernel_rfl)) (by kernel_rfl) (by kernel_rfl) (by kernel_rfl) (met_T os _)) ?_
  intro W base args ds gs before hval0 hW hL hsh
  have hval : ∀ (j : Nat) t v, Tryz.f16.params[j]? = some t → args[j]? = some v → Value.okWide Tryz.prog W .any base t v := hval0
  have hV := vars_ofT hL hsh
  have hW' := hW
  obtain ⟨p, q, hA0, _, _, _, _⟩ := hW
  have hA : DataW.TrodAll enc Tryz.prog W 0 (fun _ => true) true Tryz.f16.params.toList args.toList ds p := hA0
  rw [Tryz.params16] at hA hval
  obtain ⟨v0, v1, d0, d1, p0, p1, rfl, rfl, rfl, h0, h1⟩ := trodAll_two hA
  obtain ⟨A0, n0, c0, l0, rfl, hm0, hR0⟩ := open_srcs (hval 0 _ _ rfl rfl) h0
  obtain ⟨s1, rfl, _, _, hs1⟩ := open_string Tryz.underlying9 (hval 1 _ _ rfl rfl) h1
  refine (lawBck_any A0 n0 c0 l0 s1 W hR0 hV).mono fun e W' ⟨he, hb⟩ => ⟨_, he, ?_⟩
  exact law_post rfl rfl (by kernel_rfl) hW' ⟨rfl, rfl, rfl⟩ hb
theorem arrayBack_f1 : (Rows.arrayBackRow.inPlace == Tryz.prog.inPlace 16) = true := by kernel_rfl
theorem arrayBack_f2 : Tryz.prog.unfollowed 16 = true := by kernel_rfl
theorem arrayBack_f3 : (Rows.arrayBackRow.named == Tryz.prog.varsNamed 16) = true := by kernel_rfl
theorem arrayBack_f4 : (Rows.arrayBackRow.recurses == Tryz.prog.recurses 16) = true := by kernel_rfl
theorem arrayBack_facts : joinedFacts Tryz.prog 16 Tryz.f16 Rows.arrayBackSpec Rows.arrayBackRow = true := by
  unfold joinedFacts
  rw [laidOut, fa1, fa4, fa5, fa6, fa7, fa8, arrayBack_f1, arrayBack_f2, arrayBack_f3, arrayBack_f4]
  kernel_rfl
theorem arrayBack_holds : Rows.ArrayBackSaid :=
  OpenClaim.holds_of_wide 16 Tryz.f16 rfl rfl rfl rfl rfl rfl rfl ⟨rfl, rfl, rfl, rfl, rfl⟩ rfl rfl rfl rfl rfl (by kernel_rfl) Tryz.func16 arrayBack_facts
    (of_decide_eq_true (by kernel_rfl)) (by unfold Func.isWrapper; first | (rw [if_pos (by decide +kernel)]; kernel_rfl) | (rw [if_neg (by decide +kernel)]; exact ⟨rfl, rfl⟩))
    (fun os started H enc _ => arrayBack_lifted os started H enc)
theorem arrayBack_card_holds : Rows.ArrayBackCardSaid :=
  Claim7.holds_tied_plain_at .later [] [.data, .data, .data, .data, .sentinel, .sentinel, .data, .data, .pinned] true (true, Rows.arrayBackCard.stood.harness.2) true
    arrayBack_holds (fun _ h => by cases h) (by kernel_rfl) (fun _ h => by cases h) arrayBack_row_tie rfl ⟨rfl, rfl⟩ (by kernel_rfl) rfl
    (fun f fn hf hfn => by
      obtain rfl : f = 16 := Option.some.inj ((show Tryz.prog.funcNamed "woofer/wooferlaw06.ArrayBack" = some 16 by kernel_rfl).symm.trans hf) |>.symm
      obtain rfl : fn = Tryz.f16 := (Option.some.inj (Tryz.func16.symm.trans hfn)).symm
      exact ⟨by kernel_rfl, fun j t ht => by
        rw [Tryz.params16] at ht
        have hm : t ∈ [22, 9] := by simpa using Array.mem_of_getElem? ht
        have hall : ([22, 9].all fun u => !Tryz.prog.wantsStandIn u) = true := by kernel_rfl
        exact (show Tryz.prog.wantsStandIn t = false by simpa using List.all_eq_true.1 hall t hm)⟩)
    (by kernel_rfl)
#print axioms arrayBack_card_holds
end Go.Proofs.YtcihiglpahhboaaGreatDoor
