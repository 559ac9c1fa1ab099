/- Opening bands, quotients, matrices. -/
import Derived.Test.YtnndaipnfniciaaGreatDoorBaseT
namespace Go.Proofs.YtnndaipnfniciaaGreatDoor
open Go.ChangeShapes Go.WideShapes Go.ChangeAt Go.WideElems Go.RowKit Go.Joins Go.Deep
set_option maxRecDepth 100000
section
variable {H : Type} {enc : TypeId × Value → H}
theorem ratio_two {W : World} {base : Nat} {sp : Nat → Bool} {held : Bool} {n : Nat} {c0 c1 : Value} {x : DataW H × List MemPlace} (h : DataW.trod enc Tryz.prog W base sp held n 54 [c0, c1] = some x) : ∃ a b : Int, c0 = .int .i64 a ∧ c1 = .int .i64 b := by
  obtain ⟨y0, y1, n, hx, hl, h0, h1⟩ := trod_struct2 Tryz.underlying54 h
  have e0 : Tryz.prog.cellsOf 3 = 1 := by kernel_rfl
  simp only [e0, List.drop_zero, List.drop_succ_cons, List.take_succ_cons, List.take_zero] at h0 h1
  obtain ⟨a, rfl⟩ := cell_i64 h0
  obtain ⟨b, rfl⟩ := cell_i64 h1
  exact ⟨a, b, rfl, rfl⟩
theorem gauss_two {W : World} {base : Nat} {sp : Nat → Bool} {held : Bool} {n : Nat} {c0 c1 : Value} {x : DataW H × List MemPlace} (h : DataW.trod enc Tryz.prog W base sp held n 23 [c0, c1] = some x) : ∃ a b : Int, c0 = .int .i64 a ∧ c1 = .int .i64 b := by
  obtain ⟨y0, y1, n, hx, hl, h0, h1⟩ := trod_struct2 Tryz.underlying23 h
  have e0 : Tryz.prog.cellsOf 3 = 1 := by kernel_rfl
  simp only [e0, List.drop_zero, List.drop_succ_cons, List.take_succ_cons, List.take_zero] at h0 h1
  obtain ⟨a, rfl⟩ := cell_i64 h0
  obtain ⟨b, rfl⟩ := cell_i64 h1
  exact ⟨a, b, rfl, rfl⟩
theorem open_band {W : World} {base : Nat} {v : Value} {d : DataW H} {p : List MemPlace} (hv : Value.okWide Tryz.prog W .any base 56 v) (h : DataW.Trod enc Tryz.prog W 0 (fun _ => true) true 56 v d p) :
    ∃ (a b : Int) (x : Rt), v = .agg #[.int .i64 a, .int .i64 b, .int .i64 x.n, .int .i64 x.d] := by
  obtain ⟨cs, rfl, hsz⟩ := okWide_struct Tryz.underlying56 hv
  have hc : (Tryz.prog).cellsOf 56 = 4 := by kernel_rfl
  obtain ⟨l⟩ := cs
  match l, hsz.trans hc with
  | [c0, c1, c2, c3], _ =>
    obtain ⟨fuel, hf⟩ := h
    obtain ⟨xs, n, _, hx, _, hlen, hg⟩ := DataW.trod_struct Tryz.underlying56 hf
    have e0 : Tryz.prog.cellsOf 3 = 1 := by kernel_rfl
    have e2 : Tryz.prog.cellsOf 54 = 2 := by kernel_rfl
    match xs, hlen with
    | [y0, y1, y2], _ =>
      have h0 := hg 0 _ rfl
      have h1 := hg 1 _ rfl
      have h2 := hg 2 _ rfl
      simp only [Value.cells, List.getElem?_cons_zero, List.getElem?_cons_succ] at h0 h1 h2
      obtain ⟨a, rfl⟩ := cell_i64 h0
      obtain ⟨b, rfl⟩ := cell_i64 h1
      obtain ⟨n, d, rfl, rfl⟩ := ratio_two h2
      exact ⟨a, b, ⟨n, d⟩, rfl⟩
end
end Go.Proofs.YtnndaipnfniciaaGreatDoor
