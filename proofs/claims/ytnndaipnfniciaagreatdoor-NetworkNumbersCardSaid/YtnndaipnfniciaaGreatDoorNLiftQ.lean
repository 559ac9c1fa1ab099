/- Opening quotients. -/
import Derived.Test.YtnndaipnfniciaaGreatDoorNLiftP
import Derived.Test.YtnndaipnfniciaaGreatDoorBaseO
namespace Go.Proofs.YtnndaipnfniciaaGreatDoor
open Go.ChangeShapes Go.WideShapes Go.ChangeAt Go.WideElems Go.RowKit Go.Joins Go.Deep
set_option maxRecDepth 100000
section
variable {H : Type} {enc : TypeId × Value → H}
theorem open_pair {W : World} {base : Nat} {v : Value} {d : DataW H} {p : List MemPlace} (hv : Value.okWide Tryz.prog W .any base 25 v) (h : DataW.Trod enc Tryz.prog W 0 (fun _ => true) true 25 v d p) :
    ∃ x : Pr, v = .agg #[.int .i64 x.n.re, .int .i64 x.n.im, .int .i64 x.d.re, .int .i64 x.d.im] := by
  obtain ⟨cs, rfl, hsz⟩ := okWide_struct Tryz.underlying25 hv
  have hc : (Tryz.prog).cellsOf 25 = 4 := by kernel_rfl
  obtain ⟨l⟩ := cs
  match l, hsz.trans hc with
  | [c0, c1, c2, c3], _ =>
    obtain ⟨fuel, hf⟩ := h
    obtain ⟨y0, y1, n, hx, _, h0, h1⟩ := trod_struct2 Tryz.underlying25 hf
    have e2 : Tryz.prog.cellsOf 23 = 2 := by kernel_rfl
    simp only [Value.cells, e2, List.drop_zero, List.drop_succ_cons, List.take_succ_cons, List.take_zero] at h0 h1
    obtain ⟨a, b, rfl, rfl⟩ := gauss_two h0
    obtain ⟨c, d, rfl, rfl⟩ := gauss_two h1
    exact ⟨⟨⟨a, b⟩, ⟨c, d⟩⟩, rfl⟩
end
end Go.Proofs.YtnndaipnfniciaaGreatDoor
