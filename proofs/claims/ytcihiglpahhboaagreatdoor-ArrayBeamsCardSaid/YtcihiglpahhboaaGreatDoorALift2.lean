/- Opening four complex integers, a source, eight numbers. -/
import Derived.Test.YtcihiglpahhboaaGreatDoorALift
import Derived.Test.YtcihiglpahhboaaGreatDoorATr
namespace Go.Proofs.YtcihiglpahhboaaGreatDoor
open Go.ChangeShapes Go.WideShapes Go.ChangeAt Go.WideElems Go.RowKit Go.Joins Go.Deep
set_option maxRecDepth 100000
section
variable {H : Type} {enc : TypeId × Value → H}
theorem gauss_any {w : World} {base : Nat} {sp : Nat → Bool} {held : Bool} {m : Nat} {l : List Value} {x : DataW H × List MemPlace} (h : DataW.trod enc Tryz.prog w base sp held m 54 l = some x) : ∃ z : G, l = [.int .i64 z.re, .int .i64 z.im] := by
  obtain ⟨y0, y1, n, hx, hl, h0, h1⟩ := trod_struct2 Tryz.underlying54 h
  have e0 : Tryz.prog.cellsOf 3 = 1 := by kernel_rfl
  have e2 : Tryz.prog.cellsOf 54 = 2 := by kernel_rfl
  rw [e2] at hl
  match l, hl with
  | [c0, c1], _ =>
    simp only [e0, List.drop_zero, List.drop_succ_cons, List.take_succ_cons, List.take_zero] at h0 h1
    obtain ⟨a, rfl⟩ := cell_i64 h0
    obtain ⟨b, rfl⟩ := cell_i64 h1
    exact ⟨⟨a, b⟩, rfl⟩
theorem open_four {W : World} {base : Nat} {v : Value} {d : DataW H} {p : List MemPlace} (hv : Value.okWide Tryz.prog W .any base 114 v) (h : DataW.Trod enc Tryz.prog W 0 (fun _ => true) true 114 v d p) : ∃ s : F4, v = .agg #[.int .i64 s.a.re, .int .i64 s.a.im, .int .i64 s.b.re, .int .i64 s.b.im, .int .i64 s.c.re, .int .i64 s.c.im, .int .i64 s.d.re, .int .i64 s.d.im] := by
  have hu := Tryz.underlying114
  have hc : (Tryz.prog).cellsOf 114 = 8 := by kernel_rfl
  have e0 : (Tryz.prog).cellsOf 54 = 2 := by kernel_rfl
  have hv' := hv
  simp only [Value.okWide, hu] at hv'
  obtain ⟨cs, rfl, hsz, _⟩ := hv'
  obtain ⟨l⟩ := cs
  have hsz : l.length = 8 := hsz.trans hc
  obtain ⟨fuel, hf⟩ := h
  obtain ⟨ys, n, _, hx, hl, hn, hel⟩ := DataW.trod_array hu (by simpa [Value.cells] using hf)
  have h0 := hel 0 (by decide)
  have h1 := hel 1 (by decide)
  have h2 := hel 2 (by decide)
  have h3 := hel 3 (by decide)
  match l, hsz, ys, hn with
  | [c0, c1, c2, c3, c4, c5, c6, c7], _, [x0, x1, x2, x3], _ =>
    simp only [e0, Nat.zero_mul, Nat.one_mul, Nat.reduceMul, List.drop_zero, List.drop_succ_cons, List.take_succ_cons, List.take_zero, List.getElem?_cons_zero, List.getElem?_cons_succ] at h0 h1 h2 h3
    obtain ⟨a, ea⟩ := gauss_any h0
    obtain ⟨b, eb⟩ := gauss_any h1
    obtain ⟨c, ec⟩ := gauss_any h2
    obtain ⟨d, ed⟩ := gauss_any h3
    simp only [List.cons.injEq, and_true] at ea eb ec ed
    obtain ⟨rfl, rfl⟩ := ea
    obtain ⟨rfl, rfl⟩ := eb
    obtain ⟨rfl, rfl⟩ := ec
    obtain ⟨rfl, rfl⟩ := ed
    exact ⟨⟨a, b, c, d⟩, rfl⟩
end
end Go.Proofs.YtcihiglpahhboaaGreatDoor
