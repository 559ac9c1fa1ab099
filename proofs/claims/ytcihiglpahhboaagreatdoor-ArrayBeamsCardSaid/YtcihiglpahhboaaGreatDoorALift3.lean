/- Opening a source, eight numbers, small numbers. -/
import Derived.Test.YtcihiglpahhboaaGreatDoorALift2
import Derived.Test.YtcihiglpahhboaaGreatDoorBaseC
namespace Go.Proofs.YtcihiglpahhboaaGreatDoor
open Go.ChangeShapes Go.WideShapes Go.ChangeAt Go.WideElems Go.RowKit Go.Joins Go.Deep
set_option maxRecDepth 100000
section
variable {H : Type} {enc : TypeId × Value → H}
theorem open_src {W : World} {base : Nat} {v : Value} {d : DataW H} {p : List MemPlace} (hv : Value.okWide Tryz.prog W .any base 78 v) (h : DataW.Trod enc Tryz.prog W 0 (fun _ => true) true 78 v d p) : ∃ s : Src, v = .agg #[.int .i64 s.x, .int .i64 s.y, .int .i64 s.g, .int .i64 s.p] := by
  obtain ⟨cs, rfl, hsz⟩ := okWide_struct Tryz.underlying78 hv
  have hc : (Tryz.prog).cellsOf 78 = 4 := by kernel_rfl
  obtain ⟨l⟩ := cs
  have hl : l.length = 4 := hsz.trans hc
  obtain ⟨fuel, hf⟩ := h
  obtain ⟨s, rfl⟩ := src_cells hl (by simpa [Value.cells] using hf)
  exact ⟨s, rfl⟩
theorem open_au {W : World} {base : Nat} {v : Value} {d : DataW H} {p : List MemPlace} (hv : Value.okWide Tryz.prog W .any base 64 v) (h : DataW.Trod enc Tryz.prog W 0 (fun _ => true) true 64 v d p) : ∃ a : Au, v = .agg #[.int .i64 a.a0, .int .i64 a.a1, .int .i64 a.a2, .int .i64 a.a3, .int .i64 a.a4, .int .i64 a.a5, .int .i64 a.a6, .int .i64 a.a7] := by
  obtain ⟨xs, hl, rfl⟩ := open_arrG (Value.int .i64) Tryz.underlying64 (by kernel_rfl) (by kernel_rfl) (fun _ _ _ h => cell_i64 h) hv h
  match xs, hl with
  | [a, b, c, d, e, f, g, i], _ => exact ⟨⟨a, b, c, d, e, f, g, i⟩, rfl⟩
end
end Go.Proofs.YtcihiglpahhboaaGreatDoor
