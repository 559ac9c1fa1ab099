/- The laid variables of the laws of chapter 2. -/
import Derived.Test.YtnndaipnfniciaaGreatDoorBaseT
import Derived.Test.YtnndaipnfniciaaGreatDoorNPrint
import Derived.Test.YtnndaipnfniciaaGreatDoorBaseV
namespace Go.Proofs.YtnndaipnfniciaaGreatDoor
open Go.ChangeShapes Go.WideShapes Go.ChangeAt Go.WideElems Go.RowKit
set_option maxRecDepth 100000
/-- What the laws of chapter 2 ask of the variables. -/
structure VarsN (w : World) : Prop where
  con : Con w
  tur : Tur w
  ten : Tens w
theorem VarsN.carry {w w' : World} (h : VarsN w) (hb : Below w.heap.size w w') : VarsN w' := ⟨h.con.carry hb, h.tur.carry hb, h.ten.carry hb⟩
abbrev layN : List (String × DataW Unit) := [("math/bits.deBruijn32tab", Rows.laid_math_bits_deBruijn32tab), ("math/bits.deBruijn64tab", Rows.laid_math_bits_deBruijn64tab), ("internal/strconv.uint64pow10", Rows.laid_internal_strconv_uint64pow10), ("woofer/network.none", Rows.laid_woofer_network_none), ("woofer/network.one", Rows.laid_woofer_network_one), ("woofer/network.turns", Rows.laid_woofer_network_turns)]
theorem door_metN (os : Os) (args : Array Value) : laidMetH Tryz.prog layN ((World.doorLaid Tryz.prog 400 os).forCall (fun _ _ => 0) ⟨#[], args, []⟩).memory :=
  laidMetH_of_parts3 (fuel := 8) (laidMet_of_run' 8 (by kernel_rfl) (by kernel_rfl)) (by kernel_rfl) (by kernel_rfl)
theorem vars_ofN {W : World} (h : laidMetH Tryz.prog layN W) : VarsN W := by
  rw [MakeChecks.laidMetH_plain _ _ _ (by kernel_rfl)] at h
  obtain ⟨ps, ⟨g0, t0, cs0, f0, p0, q0, hg0, ht0, hv0, hd0, ⟨g1, t1, cs1, f1, p1, q1, hg1, ht1, hv1, hd1, ⟨g2, t2, cs2, f2, p2, q2, hg2, ht2, hv2, hd2, ⟨g3, t3, cs3, f3, p3, q3, hg3, ht3, hv3, hd3, ⟨g4, t4, cs4, f4, p4, q4, hg4, ht4, hv4, hd4, ⟨g5, t5, cs5, f5, p5, q5, hg5, ht5, hv5, hd5, _, _⟩, _⟩, _⟩, _⟩, _⟩, _⟩, _, _⟩ := h
  have e2 : Tryz.prog.globalNamed "internal/strconv.uint64pow10" = some 4 := by kernel_rfl
  have e3 : Tryz.prog.globalNamed "woofer/network.none" = some 0 := by kernel_rfl
  have e4 : Tryz.prog.globalNamed "woofer/network.one" = some 2 := by kernel_rfl
  have e5 : Tryz.prog.globalNamed "woofer/network.turns" = some 1 := by kernel_rfl
  have y2 : (Tryz.prog.globals[4]?).map (·.type) = some 223 := by kernel_rfl
  have y3 : (Tryz.prog.globals[0]?).map (·.type) = some 23 := by kernel_rfl
  have y4 : (Tryz.prog.globals[2]?).map (·.type) = some 23 := by kernel_rfl
  have y5 : (Tryz.prog.globals[1]?).map (·.type) = some 72 := by kernel_rfl
  obtain rfl := Option.some.inj (e2.symm.trans hg2)
  obtain rfl := Option.some.inj (e3.symm.trans hg3)
  obtain rfl := Option.some.inj (e4.symm.trans hg4)
  obtain rfl := Option.some.inj (e5.symm.trans hg5)
  obtain rfl := Option.some.inj (y2.symm.trans ht2)
  obtain rfl := Option.some.inj (y3.symm.trans ht3)
  obtain rfl := Option.some.inj (y4.symm.trans ht4)
  obtain rfl := Option.some.inj (y5.symm.trans ht5)
  refine ⟨con_of e3 e4 hv3 hv4 (gauss_cells hd3) (gauss_cells hd4), ⟨var_lt e5 hv5, ?_⟩, ⟨var_lt e2 hv2, ?_⟩⟩
  · obtain ⟨xs, m, _, hx, hl, hn, hel⟩ := DataW.trod_array Tryz.underlying72 hd5
    have c57 : Tryz.prog.cellsOf 23 = 2 := by kernel_rfl
    have c156 : Tryz.prog.cellsOf 72 = 8 := by kernel_rfl
    rw [c156] at hl
    have h0 := hel 0 (by decide)
    have h1 := hel 1 (by decide)
    have h2 := hel 2 (by decide)
    have h3 := hel 3 (by decide)
    rw [c57] at h0 h1 h2 h3
    simp only [Prod.mk.injEq, Rows.laid_woofer_network_turns, DataW.agg.injEq] at hx
    obtain ⟨l3⟩ := cs5
    match l3, hl, xs, hn, hx, h0, h1, h2, h3 with
    | [v0, v1, v2, v3, v4, v5, v6, v7], _, [x0, x1, x2, x3], _, hx, h0, h1, h2, h3 =>
      simp only [List.map_cons, List.map_nil, List.cons.injEq, and_true] at hx
      simp only [Nat.zero_mul, Nat.one_mul, Nat.reduceMul, List.drop_zero, List.drop_succ_cons, List.take_succ_cons, List.take_zero, List.getElem?_cons_zero, List.getElem?_cons_succ] at h0 h1 h2 h3
      obtain ⟨d0, q0⟩ := x0
      obtain ⟨d1, q1⟩ := x1
      obtain ⟨d2, q2⟩ := x2
      obtain ⟨d3, q3⟩ := x3
      obtain ⟨⟨z0, z1, z2, z3⟩, _⟩ := hx
      simp only at z0 z1 z2 z3
      subst z0; subst z1; subst z2; subst z3
      have a0 := gauss_cells h0
      have a1 := gauss_cells h1
      have a2 := gauss_cells h2
      have a3 := gauss_cells h3
      simp only [List.cons.injEq, and_true] at a0 a1 a2 a3
      obtain ⟨rfl, rfl⟩ := a0
      obtain ⟨rfl, rfl⟩ := a1
      obtain ⟨rfl, rfl⟩ := a2
      obtain ⟨rfl, rfl⟩ := a3
      intro j x hj
      have := World.var?_cell e5 hv5 j
      rw [this]
      exact hj
  · have hc := Lib.cells_of_tab (zs := Lib.pow10Tab) (k := .u64) Tryz.underlying223 Tryz.underlying212 (by kernel_rfl) (by kernel_rfl) hd2
    unfold Lib.TabIs
    rw [hv2, ← hc]
end Go.Proofs.YtnndaipnfniciaaGreatDoor
