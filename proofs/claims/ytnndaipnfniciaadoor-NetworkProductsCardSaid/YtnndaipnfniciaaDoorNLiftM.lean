/- Opening matrices. -/
import Derived.Test.YtnndaipnfniciaaDoorNLiftP
import Derived.Test.YtnndaipnfniciaaDoorPlainA
namespace Go.Proofs.YtnndaipnfniciaaDoor
open Go.ChangeShapes Go.WideShapes Go.ChangeAt Go.WideElems Go.RowKit Go.Joins Go.Deep
set_option maxRecDepth 100000
section
variable {H : Type} {enc : TypeId × Value → H}
theorem open_mat {W : World} {base : Nat} {v : Value} {d : DataW H} {p : List MemPlace} (hv : Value.okWide Tryd.prog W .any base 55 v) (h : DataW.Trod enc Tryd.prog W 0 (fun _ => true) true 55 v d p) :
    ∃ m : Mat, v = .agg #[.int .i64 m.a.re, .int .i64 m.a.im, .int .i64 m.b.re, .int .i64 m.b.im, .int .i64 m.c.re, .int .i64 m.c.im, .int .i64 m.d.re, .int .i64 m.d.im] := by
  obtain ⟨cs, rfl, hsz⟩ : ∃ cs, v = .agg cs ∧ cs.size = (Tryd.prog).cellsOf 55 := by
    unfold Value.okWide at hv
    cases v <;> simp_all [Tryd.underlying55]
  have hc : (Tryd.prog).cellsOf 55 = 8 := by kernel_rfl
  obtain ⟨l⟩ := cs
  match l, hsz.trans hc with
  | [c0, c1, c2, c3, c4, c5, c6, c7], _ =>
    obtain ⟨fuel, hf⟩ := h
    obtain ⟨xs, n, _, hx, _, hlen, hg⟩ := DataW.trod_array Tryd.underlying55 hf
    have e2 : Tryd.prog.cellsOf 34 = 2 := by kernel_rfl
    match xs, hlen with
    | [y0, y1, y2, y3], _ =>
      have h0 := hg 0 (by decide)
      have h1 := hg 1 (by decide)
      have h2 := hg 2 (by decide)
      have h3 := hg 3 (by decide)
      simp only [Value.cells, e2, Nat.zero_mul, Nat.one_mul, Nat.reduceMul, List.drop_zero, List.drop_succ_cons, List.take_succ_cons, List.take_zero, List.getElem?_cons_zero, List.getElem?_cons_succ] at h0 h1 h2 h3
      obtain ⟨a, b, rfl, rfl⟩ := gauss_two h0
      obtain ⟨c, d, rfl, rfl⟩ := gauss_two h1
      obtain ⟨e, f, rfl, rfl⟩ := gauss_two h2
      obtain ⟨g, i, rfl, rfl⟩ := gauss_two h3
      exact ⟨⟨⟨a, b⟩, ⟨c, d⟩, ⟨e, f⟩, ⟨g, i⟩⟩, rfl⟩
end
end Go.Proofs.YtnndaipnfniciaaDoor
