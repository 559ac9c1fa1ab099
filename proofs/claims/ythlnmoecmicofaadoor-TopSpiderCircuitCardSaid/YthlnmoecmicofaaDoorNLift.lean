/- From a law's walk to its row: what is alike for all laws of this seat. -/
import Derived.Test.YthlnmoecmicofaaDoorRows
import Derived.Test.YthlnmoecmicofaaDoorTie
import Derived.Test.YthlnmoecmicofaaDoorCards
import Derived.Test.YthlnmoecmicofaaDoorNFns
import Derived.Test.YthlnmoecmicofaaDoorNDrvC
import Derived.ProofKit
import Derived.LaidMore
import Derived.OpenShut
import Derived.Carry
import Derived.Lib.LaidTab
import Derived.Stop.Joined
import Derived.SevenTiedAt
namespace Go.Proofs.YthlnmoecmicofaaDoor
open Go.ChangeShapes Go.WideShapes Go.ChangeAt Go.WideElems Go.RowKit
set_option maxRecDepth 100000

theorem ownK : ownKnob Tryd.prog.godebug = none := by kernel_rfl
theorem laidOut : laidOutB Tryd.prog = true := by kernel_rfl
theorem var_lt {W : World} {name : String} {g : Nat} {cs : Array Value} (hg : Tryd.prog.globalNamed name = some g) (hv : W.var? Tryd.prog name = some cs) : g < W.heap.size := by
  unfold World.var? at hv
  rw [hg] at hv
  simp only [Option.bind_some] at hv
  rcases Nat.lt_or_ge g W.heap.size with h | h
  · exact h
  · rw [Array.getElem?_eq_none h] at hv; cases hv
theorem gauss_cells {H : Type} {enc : TypeId × Value → H} {w : World} {base : Nat} {sp : Nat → Bool} {held : Bool} {m : Nat} {l : List Value} {a b : Int} {p : List MemPlace} (h : DataW.trod enc Tryd.prog w base sp held m 30 l = some (.agg [.lit (.int .i64 a), .lit (.int .i64 b)], p)) : l = [.int .i64 a, .int .i64 b] := by
  obtain ⟨y0, y1, n, hx, hl, h0, h1⟩ := trod_struct2 Tryd.underlying30 h
  have e0 : Tryd.prog.cellsOf 3 = 1 := by kernel_rfl
  have e2 : Tryd.prog.cellsOf 30 = 2 := by kernel_rfl
  rw [e2] at hl
  match l, hl with
  | [c0, c1], _ =>
    simp only [e0, List.drop_zero, List.drop_succ_cons, List.take_succ_cons, List.take_zero] at h0 h1
    simp only [Prod.mk.injEq, DataW.agg.injEq, List.cons.injEq, and_true] at hx
    obtain ⟨k0, e1, e2, _⟩ := DataW.trod_int Tryd.underlying3 h0
    obtain ⟨k1, e3, e4, _⟩ := DataW.trod_int Tryd.underlying3 h1
    simp only [List.cons.injEq, and_true] at e1 e3
    rw [e2, e4] at hx
    simp at hx
    subst e1; subst e3
    rw [hx.1.1, hx.1.2]
theorem pair_cells {H : Type} {enc : TypeId × Value → H} {w : World} {base : Nat} {sp : Nat → Bool} {held : Bool} {m : Nat} {l : List Value} {a b : Int} {p : List MemPlace} (h : DataW.trod enc Tryd.prog w base sp held m 148 l = some (.agg [.lit (.int .i64 a), .lit (.int .i64 b)], p)) : l = [.int .i64 a, .int .i64 b] := by
  obtain ⟨xs, n, _, hx, hl, hn, hel⟩ := DataW.trod_array Tryd.underlying148 h
  have e0 : Tryd.prog.cellsOf 3 = 1 := by kernel_rfl
  have e2 : Tryd.prog.cellsOf 148 = 2 := by kernel_rfl
  rw [e2] at hl
  have h0 := hel 0 (by decide)
  have h1 := hel 1 (by decide)
  match l, hl, xs, hn with
  | [c0, c1], _, [x0, x1], _ =>
    simp only [e0, Nat.zero_mul, Nat.one_mul, List.drop_zero, List.drop_succ_cons, List.take_succ_cons, List.take_zero, List.getElem?_cons_zero, List.getElem?_cons_succ] at h0 h1
    simp only [Prod.mk.injEq, DataW.agg.injEq, List.map_cons, List.map_nil, List.cons.injEq, and_true] at hx
    obtain ⟨k0, e1, e2, _⟩ := DataW.trod_int Tryd.underlying3 h0
    obtain ⟨k1, e3, e4, _⟩ := DataW.trod_int Tryd.underlying3 h1
    simp only [List.cons.injEq, and_true] at e1 e3
    rw [e2, e4] at hx
    simp at hx
    subst e1; subst e3
    rw [hx.1.1, hx.1.2]
theorem lim_cells {H : Type} {enc : TypeId × Value → H} {w : World} {base : Nat} {sp : Nat → Bool} {held : Bool} {m : Nat} {l : List Value} {p : List MemPlace} (h : DataW.trod enc Tryd.prog w base sp held m 149 l = some (Rows.laid_woofer_driver_limits, p)) : l = limCells.toList := by
  obtain ⟨xs, n, _, hx, hl, hn, hel⟩ := DataW.trod_array Tryd.underlying149 h
  have e0 : Tryd.prog.cellsOf 148 = 2 := by kernel_rfl
  have e2 : Tryd.prog.cellsOf 149 = 12 := by kernel_rfl
  rw [e2] at hl
  have h0 := hel 0 (by decide)
  have h1 := hel 1 (by decide)
  have h2 := hel 2 (by decide)
  have h3 := hel 3 (by decide)
  have h4 := hel 4 (by decide)
  have h5 := hel 5 (by decide)
  match l, hl, xs, hn with
  | [c0, c1, c2, c3, c4, c5, c6, c7, c8, c9, c10, c11], _, [x0, x1, x2, x3, x4, x5], _ =>
    simp only [e0, Nat.zero_mul, Nat.one_mul, Nat.reduceMul, List.drop_zero, List.drop_succ_cons, List.take_succ_cons, List.take_zero, List.getElem?_cons_zero, List.getElem?_cons_succ] at h0 h1 h2 h3 h4 h5
    simp only [Rows.laid_woofer_driver_limits, Prod.mk.injEq, DataW.agg.injEq, List.map_cons, List.map_nil, List.cons.injEq, and_true] at hx
    obtain ⟨d0, q0⟩ := x0
    obtain ⟨d1, q1⟩ := x1
    obtain ⟨d2, q2⟩ := x2
    obtain ⟨d3, q3⟩ := x3
    obtain ⟨d4, q4⟩ := x4
    obtain ⟨d5, q5⟩ := x5
    obtain ⟨⟨z0, z1, z2, z3, z4, z5⟩, _⟩ := hx
    simp only at z0 z1 z2 z3 z4 z5
    subst z0; subst z1; subst z2; subst z3; subst z4; subst z5
    have a0 := pair_cells h0
    have a1 := pair_cells h1
    have a2 := pair_cells h2
    have a3 := pair_cells h3
    have a4 := pair_cells h4
    have a5 := pair_cells h5
    simp only [List.cons.injEq, and_true] at a0 a1 a2 a3 a4 a5
    simp [limCells, a0, a1, a2, a3, a4, a5]
theorem con_of {W : World} {cn co : Array Value} (e0 : Tryd.prog.globalNamed "woofer/network.none" = some 1) (e1 : Tryd.prog.globalNamed "woofer/network.one" = some 0) (hv0 : W.var? Tryd.prog "woofer/network.none" = some cn) (hv1 : W.var? Tryd.prog "woofer/network.one" = some co) (hn : cn.toList = [.int .i64 0, .int .i64 0]) (ho : co.toList = [.int .i64 1, .int .i64 0]) : Con W := by
  obtain ⟨ln⟩ := cn
  obtain ⟨lo⟩ := co
  simp only at hn ho
  subst hn; subst ho
  exact ⟨var_lt e0 hv0, (World.var?_cell e0 hv0 0).trans rfl, (World.var?_cell e0 hv0 1).trans rfl, var_lt e1 hv1, (World.var?_cell e1 hv1 0).trans rfl, (World.var?_cell e1 hv1 1).trans rfl⟩
abbrev layS : List (String × DataW Unit) := [("woofer/network.none", Rows.laid_woofer_network_none), ("woofer/network.one", Rows.laid_woofer_network_one), ("woofer/driver.limits", Rows.laid_woofer_driver_limits)]
theorem door_metS (os : Os) (args : Array Value) : laidMetH Tryd.prog layS ((World.doorLaid Tryd.prog 400 os).forCall (fun _ _ => 0) ⟨#[], args, []⟩).memory :=
  laidMetH_of_parts3 (fuel := 8) (laidMet_of_run' 8 (by kernel_rfl) (by kernel_rfl)) (by kernel_rfl) (by kernel_rfl)
theorem vars_ofS {W : World} (h : laidMetH Tryd.prog layS W) : Con W ∧ Lim W := by
  rw [MakeChecks.laidMetH_plain _ _ _ (by kernel_rfl)] at h
  obtain ⟨ps, ⟨g0, t0, cs0, f0, p0, q0, hg0, ht0, hv0, hd0, ⟨g1, t1, cs1, f1, p1, q1, hg1, ht1, hv1, hd1, ⟨g2, t2, cs2, f2, p2, q2, hg2, ht2, hv2, hd2, _, _⟩, _⟩, _⟩, _, _⟩ := h
  have e0 : Tryd.prog.globalNamed "woofer/network.none" = some 1 := by kernel_rfl
  have e1 : Tryd.prog.globalNamed "woofer/network.one" = some 0 := by kernel_rfl
  have e2 : Tryd.prog.globalNamed "woofer/driver.limits" = some 2 := by kernel_rfl
  have y0 : (Tryd.prog.globals[1]?).map (·.type) = some 30 := by kernel_rfl
  have y1 : (Tryd.prog.globals[0]?).map (·.type) = some 30 := by kernel_rfl
  have y2 : (Tryd.prog.globals[2]?).map (·.type) = some 149 := by kernel_rfl
  obtain rfl := Option.some.inj (e0.symm.trans hg0)
  obtain rfl := Option.some.inj (e1.symm.trans hg1)
  obtain rfl := Option.some.inj (e2.symm.trans hg2)
  obtain rfl := Option.some.inj (y0.symm.trans ht0)
  obtain rfl := Option.some.inj (y1.symm.trans ht1)
  obtain rfl := Option.some.inj (y2.symm.trans ht2)
  refine ⟨con_of e0 e1 hv0 hv1 (gauss_cells hd0) (gauss_cells hd1), ⟨var_lt e2 hv2, fun i _ => ?_⟩⟩
  rw [World.var?_cell e2 hv2 i]
  have := lim_cells hd2
  rw [← Array.toArray_toList (xs := cs2), this]
abbrev layD : List (String × DataW Unit) := [("woofer/network.none", Rows.laid_woofer_network_none), ("woofer/network.one", Rows.laid_woofer_network_one)]
theorem door_metD (os : Os) (args : Array Value) : laidMetH Tryd.prog layD ((World.doorLaid Tryd.prog 400 os).forCall (fun _ _ => 0) ⟨#[], args, []⟩).memory :=
  laidMetH_of_parts3 (fuel := 8) (laidMet_of_run' 8 (by kernel_rfl) (by kernel_rfl)) (by kernel_rfl) (by kernel_rfl)
theorem vars_ofD {W : World} (h : laidMetH Tryd.prog layD W) : Con W := by
  rw [MakeChecks.laidMetH_plain _ _ _ (by kernel_rfl)] at h
  obtain ⟨ps, ⟨g0, t0, cs0, f0, p0, q0, hg0, ht0, hv0, hd0, ⟨g1, t1, cs1, f1, p1, q1, hg1, ht1, hv1, hd1, _, _⟩, _⟩, _, _⟩ := h
  have e0 : Tryd.prog.globalNamed "woofer/network.none" = some 1 := by kernel_rfl
  have e1 : Tryd.prog.globalNamed "woofer/network.one" = some 0 := by kernel_rfl
  have y0 : (Tryd.prog.globals[1]?).map (·.type) = some 30 := by kernel_rfl
  have y1 : (Tryd.prog.globals[0]?).map (·.type) = some 30 := by kernel_rfl
  obtain rfl := Option.some.inj (e0.symm.trans hg0)
  obtain rfl := Option.some.inj (e1.symm.trans hg1)
  obtain rfl := Option.some.inj (y0.symm.trans ht0)
  obtain rfl := Option.some.inj (y1.symm.trans ht1)
  exact con_of e0 e1 hv0 hv1 (gauss_cells hd0) (gauss_cells hd1)
end Go.Proofs.YthlnmoecmicofaaDoor
