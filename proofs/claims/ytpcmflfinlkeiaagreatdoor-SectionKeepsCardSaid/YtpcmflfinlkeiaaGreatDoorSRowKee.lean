/- SectionKeepsCardSaid: for every input the law SectionKeeps returns true, and its arguments read as before. No condition. -/
import Derived.Test.YtpcmflfinlkeiaaGreatDoorSFact
import Derived.Test.YtpcmflfinlkeiaaGreatDoorSLiftT
import Derived.Test.YtpcmflfinlkeiaaGreatDoorSLiftB
import Derived.Test.YtpcmflfinlkeiaaGreatDoorSLawKee
namespace Go.Proofs.YtpcmflfinlkeiaaGreatDoor
open Go.ChangeShapes Go.WideShapes Go.ChangeAt Go.WideElems Go.RowKit Go.ChangeMaps
set_option maxRecDepth 100000

theorem sectionKeeps_lifted (os : Os) (started : os.Started) (H : Type) (enc : TypeId × Value → H) :
    ReturnsInHanded {} Tryz.checked os 4 .any (fun w args => (Rows.sectionKeepsSpec.pre enc Tryz.prog Tryz.f4 [] false w args ∧ laidMetH Tryz.prog layT w) ∧ sizedMet enc Tryz.prog Tryz.f4 (OpenSpec.ofChange Rows.sectionKeepsSpec) false w args)
      (Rows.sectionKeepsSpec.post enc Tryz.prog Tryz.f4 false true false false) := by
  refine returnsInHanded_andS (C := Tryz.checked) (X := fun w _ => laidMetH Tryz.prog layT w) (fun _ _ _ hh h => h.of_heap hh) ownK started (by kernel_rfl) Tryz.func4
    (ChangeSpec.witness_shaped (enc := enc) (C := Tryz.checked) (os := os) (X := fun w _ => laidMetH Tryz.prog layT w) false (World.laidAll Tryz.prog os layT) #[.slice none 0 0, .slice none 0 0, .string ⟨#[]⟩] 8 (World.laidAll_os _ _ _) (World.shaped_of_ZipB (by kernel_rfl) (by kernel_rfl)) (by kernel_rfl) (by kernel_rfl) (by kernel_rfl) (met_T os _)) ?_
  intro W base args ds gs before hval0 hW hL hsh
  have hval : ∀ (j : Nat) t v, Tryz.f4.params[j]? = some t → args[j]? = some v → Value.okWide Tryz.prog W .any base t v := hval0
  have hV := vars_ofT hL hsh
  have hW' := hW
  obtain ⟨p, q, hA0, _, _, _, _⟩ := hW
  have hA : DataW.TrodAll enc Tryz.prog W 0 (fun _ => true) true Tryz.f4.params.toList args.toList ds p := hA0
  rw [Tryz.params4] at hA hval
  obtain ⟨v0, v1, v2, d0, d1, d2, p0, p1, p2, rfl, rfl, rfl, h0, h1, h2⟩ := trodAll_three hA
  obtain ⟨A0, n0, c0, l0, rfl, hm0, hR0⟩ := open_secs (hval 0 _ _ rfl rfl) h0
  obtain ⟨A1, n1, c1, xs, rfl, _, _, _, hR1⟩ := open_listc (hval 1 _ _ rfl rfl) h1
  obtain ⟨s2, rfl, _, _, hs2⟩ := open_string Tryz.underlying9 (hval 2 _ _ rfl rfl) h2
  refine (lawKee_any A0 n0 c0 l0 A1 n1 c1 xs s2 W hR0 hR1 hV).mono fun e W' ⟨he, hb⟩ => ⟨_, he, ?_⟩
  exact law_post rfl rfl (by kernel_rfl) hW' ⟨rfl, rfl, rfl⟩ hb
theorem sectionKeeps_f1 : (Rows.sectionKeepsRow.inPlace == Tryz.prog.inPlace 4) = true := by kernel_rfl
theorem sectionKeeps_f2 : Tryz.prog.unfollowed 4 = true := by kernel_rfl
theorem sectionKeeps_f3 : (Rows.sectionKeepsRow.named == Tryz.prog.varsNamed 4) = true := by kernel_rfl
theorem sectionKeeps_f4 : (Rows.sectionKeepsRow.recurses == Tryz.prog.recurses 4) = true := by kernel_rfl
theorem sectionKeeps_facts : joinedFacts Tryz.prog 4 Tryz.f4 Rows.sectionKeepsSpec Rows.sectionKeepsRow = true := by
  unfold joinedFacts
  rw [laidOut, fa1, fa4, fa5, fa6, fa7, fa8, sectionKeeps_f1, sectionKeeps_f2, sectionKeeps_f3, sectionKeeps_f4]
  kernel_rfl
theorem sectionKeeps_holds : Rows.SectionKeepsSaid :=
  OpenClaim.holds_of_wide 4 Tryz.f4 rfl rfl rfl rfl rfl rfl rfl ⟨rfl, rfl, rfl, rfl, rfl⟩ rfl rfl rfl rfl rfl (by kernel_rfl) Tryz.func4 sectionKeeps_facts
    (of_decide_eq_true (by kernel_rfl)) (by unfold Func.isWrapper; first | (rw [if_pos (by decide +kernel)]; kernel_rfl) | (rw [if_neg (by decide +kernel)]; exact ⟨rfl, rfl⟩))
    (fun os started H enc _ => sectionKeeps_lifted os started H enc)
theorem sectionKeeps_card_holds : Rows.SectionKeepsCardSaid :=
  Claim7.holds_tied_plain_at .later [] [.data, .data, .data, .data, .sentinel, .sentinel, .data, .pinned] true (true, Rows.sectionKeepsCard.stood.harness.2) true
    sectionKeeps_holds (fun _ h => by cases h) (by kernel_rfl) (fun _ h => by cases h) sectionKeeps_row_tie rfl ⟨rfl, rfl⟩ (by kernel_rfl) rfl
    (fun f fn hf hfn => by
      obtain rfl : f = 4 := Option.some.inj ((show Tryz.prog.funcNamed "woofer/wooferlaw05.SectionKeeps" = some 4 by kernel_rfl).symm.trans hf) |>.symm
      obtain rfl : fn = Tryz.f4 := (Option.some.inj (Tryz.func4.symm.trans hfn)).symm
      exact ⟨by kernel_rfl, fun j t ht => by
        rw [Tryz.params4] at ht
        have hm : t ∈ [22, 23, 9] := by simpa using Array.mem_of_getElem? ht
        have hall : ([22, 23, 9].all fun u => !Tryz.prog.wantsStandIn u) = true := by kernel_rfl
        exact (show Tryz.prog.wantsStandIn t = false by simpa using List.all_eq_true.1 hall t hm)⟩)
    (by kernel_rfl)
#print axioms sectionKeeps_card_holds
end Go.Proofs.YtpcmflfinlkeiaaGreatDoor
