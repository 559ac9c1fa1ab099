/- Opening a spot: quarter turns, a shift, a wall, and whether it is soft. -/
import Derived.Test.YtcihiglpahhboaaGreatDoorALift3
namespace Go.Proofs.YtcihiglpahhboaaGreatDoor
open Go.ChangeShapes Go.WideShapes Go.ChangeAt Go.WideElems Go.RowKit Go.Joins Go.Deep
set_option maxRecDepth 100000
section
variable {H : Type} {enc : TypeId × Value → H}
theorem cell_bool {w : World} {base : Nat} {sp : Nat → Bool} {held : Bool} {n : Nat} {v : Value} {y : DataW H × List MemPlace} (h : DataW.trod enc Tryz.prog w base sp held n 4 [v] = some y) : ∃ b : Bool, v = .bool b := by
  obtain ⟨b, e1, _⟩ := DataW.trod_bool Tryz.underlying4 h
  exact ⟨b, by simpa using e1⟩
theorem open_spot {W : World} {base : Nat} {v : Value} {d : DataW H} {p : List MemPlace} (hv : Value.okWide Tryz.prog W .any base 107 v) (h : DataW.Trod enc Tryz.prog W 0 (fun _ => true) true 107 v d p) : ∃ (q x y u : Int) (b : Bool), v = .agg #[.int .i64 q, .int .i64 x, .int .i64 y, .int .i64 u, .bool b] := by
  obtain ⟨cs, rfl, hsz⟩ := okWide_struct Tryz.underlying107 hv
  have hc : (Tryz.prog).cellsOf 107 = 5 := by kernel_rfl
  obtain ⟨l⟩ := cs
  have hl : l.length = 5 := hsz.trans hc
  obtain ⟨fuel, hf⟩ := h
  match l, hl with
  | [c0, c1, c2, c3, c4], _ =>
    obtain ⟨xs, n, _, hx, _, hlen, hg⟩ := DataW.trod_struct Tryz.underlying107 (by simpa [Value.cells] using hf)
    have e1 : Tryz.prog.cellsOf 3 = 1 := by kernel_rfl
    have eb : Tryz.prog.cellsOf 4 = 1 := by kernel_rfl
    match xs, hlen with
    | [y0, y1, y2, y3, y4], _ =>
      have h0 : DataW.trod enc Tryz.prog W 0 (fun _ => true) true n 3 [c0] = some y0 := by simpa [e1, eb] using hg 0 _ rfl
      have h1 : DataW.trod enc Tryz.prog W 0 (fun _ => true) true n 3 [c1] = some y1 := by simpa [e1, eb] using hg 1 _ rfl
      have h2 : DataW.trod enc Tryz.prog W 0 (fun _ => true) true n 3 [c2] = some y2 := by simpa [e1, eb] using hg 2 _ rfl
      have h3 : DataW.trod enc Tryz.prog W 0 (fun _ => true) true n 3 [c3] = some y3 := by simpa [e1, eb] using hg 3 _ rfl
      have h4 : DataW.trod enc Tryz.prog W 0 (fun _ => true) true n 4 [c4] = some y4 := by simpa [e1, eb] using hg 4 _ rfl
      obtain ⟨q, rfl⟩ := cell_i64 h0
      obtain ⟨x, rfl⟩ := cell_i64 h1
      obtain ⟨y, rfl⟩ := cell_i64 h2
      obtain ⟨u, rfl⟩ := cell_i64 h3
      obtain ⟨b, rfl⟩ := cell_bool h4
      exact ⟨q, x, y, u, b, rfl⟩
end
end Go.Proofs.YtcihiglpahhboaaGreatDoor
