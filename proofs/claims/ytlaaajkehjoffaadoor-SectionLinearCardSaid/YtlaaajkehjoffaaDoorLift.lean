/- From a law's walk to its row: what is alike for all laws of this seat. -/
import Derived.Test.YtlaaajkehjoffaaDoorRows
import Derived.Test.YtlaaajkehjoffaaDoorTie
import Derived.Test.YtlaaajkehjoffaaDoorCards
import Derived.Test.YtlaaajkehjoffaaDoorLawSteps
import Derived.ProofKit
import Derived.LaidMore
import Derived.OpenShut
import Derived.Carry
import Derived.Lib.LaidTab
import Derived.Stop.Joined
import Derived.SevenTiedAt
namespace Go.Proofs.YtlaaajkehjoffaaDoor
open Go.ChangeShapes Go.WideShapes Go.ChangeAt Go.WideElems Go.RowKit
set_option maxRecDepth 100000

theorem ownK : ownKnob Tryd.prog.godebug = none := by kernel_rfl
theorem laidOut : laidOutB Tryd.prog = true := by kernel_rfl
abbrev lay4 : List (String × DataW Unit) := [("math/bits.deBruijn32tab", Rows.laid_math_bits_deBruijn32tab), ("math/bits.deBruijn64tab", Rows.laid_math_bits_deBruijn64tab), ("internal/strconv.uint64pow10", Rows.laid_internal_strconv_uint64pow10), ("woofer/section.powers", Rows.laid_woofer_section_powers)]

theorem door_met (os : Os) (args : Array Value) : laidMetH Tryd.prog lay4 ((World.doorLaid Tryd.prog 400 os).forCall (fun _ _ => 0) ⟨#[], args, []⟩).memory :=
  laidMetH_of_parts3 (fuel := 8) (laidMet_of_run' 8 (by kernel_rfl) (by kernel_rfl)) (by kernel_rfl) (by kernel_rfl)

theorem gauss_two {H : Type} {enc : TypeId × Value → H} {w : World} {base : Nat} {sp : Nat → Bool} {held : Bool} {m : Nat} {c0 c1 : Value} {a b : Int} {p : List MemPlace} (h : DataW.trod enc Tryd.prog w base sp held m 57 [c0, c1] = some (.agg [.lit (.int .i64 a), .lit (.int .i64 b)], p)) : c0 = .int .i64 a ∧ c1 = .int .i64 b := by
  obtain ⟨y0, y1, n, hx, _, h0, h1⟩ := trod_struct2 Tryd.underlying57 h
  have e0 : Tryd.prog.cellsOf 3 = 1 := by kernel_rfl
  simp only [e0, List.drop_zero, List.drop_succ_cons, List.take_succ_cons, List.take_zero] at h0 h1
  simp only [Prod.mk.injEq, DataW.agg.injEq, List.cons.injEq, and_true] at hx
  obtain ⟨k0, e1, e2, _⟩ := DataW.trod_int Tryd.underlying3 h0
  obtain ⟨k1, e3, e4, _⟩ := DataW.trod_int Tryd.underlying3 h1
  simp only [List.cons.injEq, and_true] at e1 e3
  rw [e2, e4] at hx
  simp at hx
  subst e1; subst e3
  exact ⟨by rw [hx.1.1], by rw [hx.1.2]⟩

theorem vars_of {W : World} (h : laidMetH Tryd.prog lay4 W) : Vars W := by
  rw [MakeChecks.laidMetH_plain _ _ _ (by kernel_rfl)] at h
  obtain ⟨ps, ⟨g0, t0, cs0, f0, p0, q0, hg0, ht0, hv0, hd0, ⟨g1, t1, cs1, f1, p1, q1, hg1, ht1, hv1, hd1, ⟨g2, t2, cs2, f2, p2, q2, hg2, ht2, hv2, hd2, ⟨g3, t3, cs3, f3, p3, q3, hg3, ht3, hv3, hd3, _, _⟩, _⟩, _⟩, _⟩, _, _⟩ := h
  have e2 : Tryd.prog.globalNamed "internal/strconv.uint64pow10" = some 2 := by kernel_rfl
  have e3 : Tryd.prog.globalNamed "woofer/section.powers" = some 0 := by kernel_rfl
  have y2 : (Tryd.prog.globals[2]?).map (·.type) = some 173 := by kernel_rfl
  have y3 : (Tryd.prog.globals[0]?).map (·.type) = some 156 := by kernel_rfl
  obtain rfl := Option.some.inj (e2.symm.trans hg2)
  obtain rfl := Option.some.inj (e3.symm.trans hg3)
  obtain rfl := Option.some.inj (y2.symm.trans ht2)
  obtain rfl := Option.some.inj (y3.symm.trans ht3)
  have hlt : ∀ {name : String} {g : Nat} {cs : Array Value}, Tryd.prog.globalNamed name = some g → W.var? Tryd.prog name = some cs → g < W.heap.size := by
    intro name g cs hg hv
    unfold World.var? at hv
    rw [hg] at hv
    simp only [Option.bind_some] at hv
    rcases Nat.lt_or_ge g W.heap.size with h | h
    · exact h
    · rw [Array.getElem?_eq_none h] at hv; cases hv
  refine ⟨⟨hlt e3 hv3, ?_⟩, ⟨hlt e2 hv2, ?_⟩⟩
  · obtain ⟨xs, m, _, hx, hl, hn, hel⟩ := DataW.trod_array Tryd.underlying156 hd3
    have c57 : Tryd.prog.cellsOf 57 = 2 := by kernel_rfl
    have c156 : Tryd.prog.cellsOf 156 = 8 := by kernel_rfl
    rw [c156] at hl
    have h0 := hel 0 (by decide)
    have h1 := hel 1 (by decide)
    have h2 := hel 2 (by decide)
    have h3 := hel 3 (by decide)
    rw [c57] at h0 h1 h2 h3
    simp only [Prod.mk.injEq, Rows.laid_woofer_section_powers, DataW.agg.injEq] at hx
    obtain ⟨l3⟩ := cs3
    match l3, hl, xs, hn, hx, h0, h1, h2, h3 with
    | [v0, v1, v2, v3, v4, v5, v6, v7], _, [x0, x1, x2, x3], _, hx, h0, h1, h2, h3 =>
      simp only [List.map_cons, List.map_nil, List.cons.injEq, and_true] at hx
      simp only [Nat.zero_mul, Nat.one_mul, Nat.reduceMul, List.drop_zero, List.drop_succ_cons, List.take_succ_cons, List.take_zero, List.getElem?_cons_zero, List.getElem?_cons_succ] at h0 h1 h2 h3
      obtain ⟨d0, q0⟩ := x0
      obtain ⟨d1, q1⟩ := x1
      obtain ⟨d2, q2⟩ := x2
      obtain ⟨d3, q3⟩ := x3
      obtain ⟨⟨z0, z1, z2, z3⟩, _⟩ := hx
      simp only at z0 z1 z2 z3
      subst z0; subst z1; subst z2; subst z3
      obtain ⟨rfl, rfl⟩ := gauss_two h0
      obtain ⟨rfl, rfl⟩ := gauss_two h1
      obtain ⟨rfl, rfl⟩ := gauss_two h2
      obtain ⟨rfl, rfl⟩ := gauss_two h3
      intro j x hj
      have := World.var?_cell e3 hv3 j
      rw [this]
      simp only [powRow] at hj
      rcases j with _ | _ | _ | _ | _ | _ | _ | _ | j <;> simp at hj <;> subst hj <;> rfl
  · have hc := Lib.cells_of_tab (zs := Lib.pow10Tab) (k := .u64) Tryd.underlying173 Tryd.underlying167 (by kernel_rfl) (by kernel_rfl) hd2
    unfold Lib.TabIs
    rw [hv2, ← hc]
end Go.Proofs.YtlaaajkehjoffaaDoor
