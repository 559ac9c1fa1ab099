/- TopSpiderCircuitCardSaid: for every input the law TopSpiderCircuit returns true, and its arguments read as before. No condition. -/
import Derived.Test.YthlnmoecmicofaaDoorNLiftB
import Derived.Test.YthlnmoecmicofaaDoorNLawCir
namespace Go.Proofs.YthlnmoecmicofaaDoor
open Go.ChangeShapes Go.WideShapes Go.ChangeAt Go.WideElems Go.RowKit
set_option maxRecDepth 100000

theorem open_el {H : Type} {enc : TypeId × Value → H} {W : World} {base : Nat} {v : Value} {d : DataW H} {p : List MemPlace} (hv : Value.okWide Tryd.prog W .any base 53 v) (h : DataW.Trod enc Tryd.prog W 0 (fun _ => true) true 53 v d p) : ∃ x : El, v = .agg #[.string x.kind, .int .i64 x.a, .int .i64 x.b] := by
  obtain ⟨cs, rfl, hsz⟩ := okWide_struct Tryd.underlying53 hv
  obtain ⟨l⟩ := cs
  match l, hsz.trans (show (Tryd.prog).cellsOf 53 = 3 by kernel_rfl) with
  | [c0, c1, c2], _ =>
  obtain ⟨fuel, hf⟩ := h
  obtain ⟨v0, v1, v2, y0, y1, y2, n, e, h0, h1, h2⟩ := open_cells3 Tryd.underlying53 (by kernel_rfl) (show [c0, c1, c2].length = 3 from rfl) (by simpa [Value.cells] using hf)
  obtain ⟨a0, rfl⟩ := cell_str h0
  obtain ⟨a1, rfl⟩ := cell_i64 h1
  obtain ⟨a2, rfl⟩ := cell_i64 h2
  rw [e]
  exact ⟨⟨a0, a1, a2⟩, rfl⟩
theorem topSpiderCircuit_lifted (os : Os) (started : os.Started) (H : Type) (enc : TypeId × Value → H) :
    ReturnsInHanded {} Tryd.checked os 5 .any (fun w args => (Rows.topSpiderCircuitSpec.pre enc Tryd.prog Tryd.f5 [] false w args ∧ laidMetH Tryd.prog layS w) ∧ sizedMet enc Tryd.prog Tryd.f5 (OpenSpec.ofChange Rows.topSpiderCircuitSpec) false w args)
      (Rows.topSpiderCircuitSpec.post enc Tryd.prog Tryd.f5 false true false false) := by
  refine returnsInHanded_of_change_and (C := Tryd.checked) (X := fun w _ => laidMetH Tryd.prog layS w) (fun _ _ _ hh h => h.of_heap hh) ownK started (by kernel_rfl) Tryd.func5
    (ChangeSpec.witness_shaped (enc := enc) (C := Tryd.checked) (os := os) (X := fun w _ => laidMetH Tryd.prog layS w) false (World.doorLaid Tryd.prog 400 os) #[.agg #[.int .i64 0, .int .i64 0, .int .i64 0, .int .i64 0, .int .i64 0, .int .i64 0], .agg #[.string ByteArray.empty, .int .i64 0, .int .i64 0], .int .i64 0] 8 rfl (World.shaped_of_RefB (by kernel_rfl) (by kernel_rfl)) (by kernel_rfl) (by kernel_rfl) (by kernel_rfl) (door_metS os _)) ?_
  intro W base args ds gs before hval0 hW _ _ hL _
  have hval : ∀ (j : Nat) t v, Tryd.f5.params[j]? = some t → args[j]? = some v → Value.okWide Tryd.prog W .any base t v := hval0
  have hV := vars_ofS hL
  have hW' := hW
  obtain ⟨p, q, hA0, _, _, _, _⟩ := hW
  have hA : DataW.TrodAll enc Tryd.prog W 0 (fun _ => true) true Tryd.f5.params.toList args.toList ds p := hA0
  rw [Tryd.params5] at hA hval
  obtain ⟨v0, v1, v2, d0, d1, d2, p0, p1, p2, rfl, rfl, rfl, h0, h1, h2⟩ := trodAll_three hA
  obtain ⟨d, rfl⟩ := open_drv (hval 0 _ _ rfl rfl) h0
  obtain ⟨x, rfl⟩ := open_el (hval 1 _ _ rfl rfl) h1
  obtain ⟨f, rfl, _, _⟩ := open_i64 (hval 2 _ _ rfl rfl) h2
  refine (lawCir_any d x f W hV.1 hV.2).mono fun e W' ⟨he, hb⟩ => ⟨_, he, ?_⟩
  exact law_post rfl rfl (by kernel_rfl) hW' ⟨rfl, rfl, rfl⟩ hb
theorem topSpiderCircuit_holds : Rows.TopSpiderCircuitSaid :=
  OpenClaim.holds_of_wide 5 Tryd.f5 rfl rfl rfl rfl rfl rfl rfl ⟨rfl, rfl, rfl, rfl, rfl⟩ rfl rfl rfl rfl rfl (by kernel_rfl) Tryd.func5 (by kernel_rfl)
    (of_decide_eq_true (by kernel_rfl)) (by unfold Func.isWrapper; first | (rw [if_pos (by decide +kernel)]; kernel_rfl) | (rw [if_neg (by decide +kernel)]; exact ⟨rfl, rfl⟩))
    (fun os started H enc _ => topSpiderCircuit_lifted os started H enc)
theorem topSpiderCircuit_card_holds : Rows.TopSpiderCircuitCardSaid :=
  Claim7.holds_tied_plain_at .later [] [.data, .data, .data] true (true, Rows.topSpiderCircuitCard.stood.harness.2) false
    topSpiderCircuit_holds (fun _ h => by cases h) (by kernel_rfl) (fun _ h => by cases h) topSpiderCircuit_row_tie rfl ⟨rfl, rfl⟩ (by kernel_rfl) rfl
    (fun f fn hf hfn => by
      obtain rfl : f = 5 := Option.some.inj ((show Tryd.prog.funcNamed "woofer/woofertop.TopSpiderCircuit" = some 5 by kernel_rfl).symm.trans hf) |>.symm
      obtain rfl : fn = Tryd.f5 := (Option.some.inj (Tryd.func5.symm.trans hfn)).symm
      exact ⟨by kernel_rfl, fun j t ht => by
        rw [Tryd.params5] at ht
        have hm : t ∈ [24, 53, 3] := by simpa using Array.mem_of_getElem? ht
        have hall : ([24, 53, 3].all fun u => !Tryd.prog.wantsStandIn u) = true := by kernel_rfl
        exact (show Tryd.prog.wantsStandIn t = false by simpa using List.all_eq_true.1 hall t hm)⟩)
    (by kernel_rfl)
#print axioms topSpiderCircuit_card_holds
end Go.Proofs.YthlnmoecmicofaaDoor
