/- Opening bands, quotients, matrices. -/
import Derived.Test.YtnndaipnfniciaaDoorBaseT
namespace Go.Proofs.YtnndaipnfniciaaDoor
open Go.ChangeShapes Go.WideShapes Go.ChangeAt Go.WideElems Go.RowKit Go.Joins Go.Deep
set_option maxRecDepth 100000
section
variable {H : Type} {enc : TypeId × Value → H}
theorem ratio_two {W : World} {base : Nat} {sp : Nat → Bool} {held : Bool} {n : Nat} {c0 c1 : Value} {x : DataW H × List MemPlace} (h : DataW.trod enc Tryd.prog W base sp held n 50 [c0, c1] = some x) : ∃ a b : Int, c0 = .int .i64 a ∧ c1 = .int .i64 b := by
  obtain ⟨y0, y1, n, hx, hl, h0, h1⟩ := trod_struct2 Tryd.underlying50 h
  have e0 : Tryd.prog.cellsOf 3 = 1 := by kernel_rfl
  simp only [e0, List.drop_zero, List.drop_succ_cons, List.take_succ_cons, List.take_zero] at h0 h1
  obtain ⟨a, rfl⟩ := cell_i64 h0
  obtain ⟨b, rfl⟩ := cell_i64 h1
  exact ⟨a, b, rfl, rfl⟩
theorem gauss_two {W : World} {base : Nat} {sp : Nat → Bool} {held : Bool} {n : Nat} {c0 c1 : Value} {x : DataW H × List MemPlace} (h : DataW.trod enc Tryd.prog W base sp held n 34 [c0, c1] = some x) : ∃ a b : Int, c0 = .int .i64 a ∧ c1 = .int .i64 b := by
  obtain ⟨y0, y1, n, hx, hl, h0, h1⟩ := trod_struct2 Tryd.underlying34 h
  have e0 : Tryd.prog.cellsOf 3 = 1 := by kernel_rfl
  simp only [e0, List.drop_zero, List.drop_succ_cons, List.take_succ_cons, List.take_zero] at h0 h1
  obtain ⟨a, rfl⟩ := cell_i64 h0
  obtain ⟨b, rfl⟩ := cell_i64 h1
  exact ⟨a, b, rfl, rfl⟩
end
end Go.Proofs.YtnndaipnfniciaaDoor
