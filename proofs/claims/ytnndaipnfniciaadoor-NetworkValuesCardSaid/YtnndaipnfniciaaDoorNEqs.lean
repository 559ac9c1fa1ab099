/- What is equal to itself: quotients, matrices. -/
import Derived.Test.YtnndaipnfniciaaDoorBaseW
import Derived.ChangeKeysEq
namespace Go.Proofs.YtnndaipnfniciaaDoor
open Go.RowKit Go.Shelf
set_option maxRecDepth 100000
theorem reflPr_in (a : Pr) (w : World) : (Op.equalIn 10000 68 (.agg #[.int .i64 a.n.re, .int .i64 a.n.im, .int .i64 a.d.re, .int .i64 a.d.im]) (.agg #[.int .i64 a.n.re, .int .i64 a.n.im, .int .i64 a.d.re, .int .i64 a.d.im])).run Tryd.prog w = .ok true w := by
  have c2 : Tryd.prog.cellsOf 34 = 2 := by kernel_rfl
  rw [show (10000 : Nat) = 9999 + 1 from rfl, run_equalIn_struct w 9999 68 _ _ (by kernel_rfl) (by kernel_rfl)]
  simp [Program.fieldsOf, Tryd.underlying68, Tryd.underlying34, Op.eqFields, go_sem, run_equalIn_int _ _ _ _ _ _ _ Tryd.underlying3]
theorem reflPr_eq (a : Pr) (w : World) : (binOp .eql 68 (.agg #[.int .i64 a.n.re, .int .i64 a.n.im, .int .i64 a.d.re, .int .i64 a.d.im]) (.agg #[.int .i64 a.n.re, .int .i64 a.n.im, .int .i64 a.d.re, .int .i64 a.d.im])).run Tryd.prog w = .ok (.bool true) w := by
  have hh := reflPr_in a w
  simp only [binOp, Op.equal, Op.maxDepth]
  simp [hh, go_sem]
theorem reflPr_ne (a : Pr) (w : World) : (binOp .neq 68 (.agg #[.int .i64 a.n.re, .int .i64 a.n.im, .int .i64 a.d.re, .int .i64 a.d.im]) (.agg #[.int .i64 a.n.re, .int .i64 a.n.im, .int .i64 a.d.re, .int .i64 a.d.im])).run Tryd.prog w = .ok (.bool false) w := by
  have hh := reflPr_in a w
  simp only [binOp, Op.equal, Op.maxDepth]
  simp [hh, go_sem]
theorem info_gauss : ∃ i, (Tryd.prog.info? 34) = some i := Option.isSome_iff_exists.1 (by kernel_rfl)
theorem gEq0 (a b : Int) (w : World) : (Op.equalIn 9999 34 (.agg #[.int .i64 a, .int .i64 b]) (.agg #[.int .i64 a, .int .i64 b])).run Tryd.prog w = .ok true w := by
  rw [show (9999 : Nat) = 9998 + 1 from rfl, run_equalIn_struct w 9998 34 _ _ (by kernel_rfl) (by kernel_rfl)]
  simp [Program.fieldsOf, Tryd.underlying34, Op.eqFields, go_sem, run_equalIn_int _ _ _ _ _ _ _ Tryd.underlying3]
theorem reflMa_in (m : Mat) (w : World) : (Op.equalIn 10000 36 (.agg #[.int .i64 m.a.re, .int .i64 m.a.im, .int .i64 m.b.re, .int .i64 m.b.im, .int .i64 m.c.re, .int .i64 m.c.im, .int .i64 m.d.re, .int .i64 m.d.im]) (.agg #[.int .i64 m.a.re, .int .i64 m.a.im, .int .i64 m.b.re, .int .i64 m.b.im, .int .i64 m.c.re, .int .i64 m.c.im, .int .i64 m.d.re, .int .i64 m.d.im])).run Tryd.prog w = .ok true w := by
  obtain ⟨i, hi⟩ := info_gauss
  have c2 : Tryd.prog.cellsOf 34 = 2 := by kernel_rfl
  rw [show (10000 : Nat) = 9999 + 1 from rfl, run_equalIn_array w 9999 _ _ Tryd.underlying36 hi, c2]
  simp only [show List.range 4 = [0, 1, 2, 3] from rfl, Op.eqItems, go_sem]
  simp [go_sem, gEq0]
theorem reflMa_eq (m : Mat) (w : World) : (binOp .eql 36 (.agg #[.int .i64 m.a.re, .int .i64 m.a.im, .int .i64 m.b.re, .int .i64 m.b.im, .int .i64 m.c.re, .int .i64 m.c.im, .int .i64 m.d.re, .int .i64 m.d.im]) (.agg #[.int .i64 m.a.re, .int .i64 m.a.im, .int .i64 m.b.re, .int .i64 m.b.im, .int .i64 m.c.re, .int .i64 m.c.im, .int .i64 m.d.re, .int .i64 m.d.im])).run Tryd.prog w = .ok (.bool true) w := by
  have hh := reflMa_in m w
  simp only [binOp, Op.equal, Op.maxDepth]
  simp [hh, go_sem]
theorem reflMa_ne (m : Mat) (w : World) : (binOp .neq 36 (.agg #[.int .i64 m.a.re, .int .i64 m.a.im, .int .i64 m.b.re, .int .i64 m.b.im, .int .i64 m.c.re, .int .i64 m.c.im, .int .i64 m.d.re, .int .i64 m.d.im]) (.agg #[.int .i64 m.a.re, .int .i64 m.a.im, .int .i64 m.b.re, .int .i64 m.b.im, .int .i64 m.c.re, .int .i64 m.c.im, .int .i64 m.d.re, .int .i64 m.d.im])).run Tryd.prog w = .ok (.bool false) w := by
  have hh := reflMa_in m w
  simp only [binOp, Op.equal, Op.maxDepth]
  simp [hh, go_sem]
theorem reflMaR_in (m : Mat) (w : World) : (Op.equalIn 10000 55 (.agg #[.int .i64 m.a.re, .int .i64 m.a.im, .int .i64 m.b.re, .int .i64 m.b.im, .int .i64 m.c.re, .int .i64 m.c.im, .int .i64 m.d.re, .int .i64 m.d.im]) (.agg #[.int .i64 m.a.re, .int .i64 m.a.im, .int .i64 m.b.re, .int .i64 m.b.im, .int .i64 m.c.re, .int .i64 m.c.im, .int .i64 m.d.re, .int .i64 m.d.im])).run Tryd.prog w = .ok true w := by
  obtain ⟨i, hi⟩ := info_gauss
  have c2 : Tryd.prog.cellsOf 34 = 2 := by kernel_rfl
  rw [show (10000 : Nat) = 9999 + 1 from rfl, run_equalIn_array w 9999 _ _ Tryd.underlying55 hi, c2]
  simp only [show List.range 4 = [0, 1, 2, 3] from rfl, Op.eqItems, go_sem]
  simp [go_sem, gEq0]
theorem reflMaR_eq (m : Mat) (w : World) : (binOp .eql 55 (.agg #[.int .i64 m.a.re, .int .i64 m.a.im, .int .i64 m.b.re, .int .i64 m.b.im, .int .i64 m.c.re, .int .i64 m.c.im, .int .i64 m.d.re, .int .i64 m.d.im]) (.agg #[.int .i64 m.a.re, .int .i64 m.a.im, .int .i64 m.b.re, .int .i64 m.b.im, .int .i64 m.c.re, .int .i64 m.c.im, .int .i64 m.d.re, .int .i64 m.d.im])).run Tryd.prog w = .ok (.bool true) w := by
  have hh := reflMaR_in m w
  simp only [binOp, Op.equal, Op.maxDepth]
  simp [hh, go_sem]
theorem reflMaR_ne (m : Mat) (w : World) : (binOp .neq 55 (.agg #[.int .i64 m.a.re, .int .i64 m.a.im, .int .i64 m.b.re, .int .i64 m.b.im, .int .i64 m.c.re, .int .i64 m.c.im, .int .i64 m.d.re, .int .i64 m.d.im]) (.agg #[.int .i64 m.a.re, .int .i64 m.a.im, .int .i64 m.b.re, .int .i64 m.b.im, .int .i64 m.c.re, .int .i64 m.c.im, .int .i64 m.d.re, .int .i64 m.d.im])).run Tryd.prog w = .ok (.bool false) w := by
  have hh := reflMaR_in m w
  simp only [binOp, Op.equal, Op.maxDepth]
  simp [hh, go_sem]
theorem reflG_eq (a : G) (w : World) : (binOp .eql 34 (.agg #[.int .i64 a.re, .int .i64 a.im]) (.agg #[.int .i64 a.re, .int .i64 a.im])).run Tryd.prog w = .ok (.bool true) w := by
  have := eqG a a w
  rwa [decide_eq_true rfl] at this
theorem reflG_ne (a : G) (w : World) : (binOp .neq 34 (.agg #[.int .i64 a.re, .int .i64 a.im]) (.agg #[.int .i64 a.re, .int .i64 a.im])).run Tryd.prog w = .ok (.bool false) w := by
  have := neqG a a w
  rwa [decide_eq_true rfl] at this
end Go.Proofs.YtnndaipnfniciaaDoor
