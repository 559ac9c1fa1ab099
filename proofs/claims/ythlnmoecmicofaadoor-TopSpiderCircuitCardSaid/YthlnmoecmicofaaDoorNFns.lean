/- The variables none and one; the matrices of the kinds of elements, as the program's function values make them. -/
import Derived.Test.YthlnmoecmicofaaDoorNProd
namespace Go.Proofs.YthlnmoecmicofaaDoor
open Go.RowKit Go.Shelf
set_option maxRecDepth 100000

/-- The complex integers 0 and 1 of the program lie where they were laid. -/
structure Con (w : World) : Prop where
  hn : 1 < w.heap.size
  n0 : w.cell? ⟨1, 0, none⟩ = some (.int .i64 0)
  n1 : w.cell? ⟨1, 1, none⟩ = some (.int .i64 0)
  ho : 0 < w.heap.size
  o0 : w.cell? ⟨0, 0, none⟩ = some (.int .i64 1)
  o1 : w.cell? ⟨0, 1, none⟩ = some (.int .i64 0)
theorem Con.carry {w w' : World} (h : Con w) (hb : Below w.heap.size w w') : Con w' :=
  ⟨Nat.lt_of_lt_of_le h.hn hb.size, (hb.cell (p := ⟨1, 0, none⟩) h.hn).trans h.n0, (hb.cell (p := ⟨1, 1, none⟩) h.hn).trans h.n1,
   Nat.lt_of_lt_of_le h.ho hb.size, (hb.cell (p := ⟨0, 0, none⟩) h.ho).trans h.o0, (hb.cell (p := ⟨0, 1, none⟩) h.ho).trans h.o1⟩

set_option maxHeartbeats 1000000 in
theorem kFn1_any (v : G) (w : World) (hC : Con w) :
    Calls Tryd.prog 80 #[.agg #[.int .i64 v.re, .int .i64 v.im]] w fun e w' => e = .returned (.agg #[.int .i64 (⟨v, G.one, G.zero, v⟩ : Mat).a.re, .int .i64 (⟨v, G.one, G.zero, v⟩ : Mat).a.im, .int .i64 (⟨v, G.one, G.zero, v⟩ : Mat).b.re, .int .i64 (⟨v, G.one, G.zero, v⟩ : Mat).b.im, .int .i64 (⟨v, G.one, G.zero, v⟩ : Mat).c.re, .int .i64 (⟨v, G.one, G.zero, v⟩ : Mat).c.im, .int .i64 (⟨v, G.one, G.zero, v⟩ : Mat).d.re, .int .i64 (⟨v, G.one, G.zero, v⟩ : Mat).d.im]) ∧ Below w.heap.size w w' := by
  go_enter Tryd.func80, Tryd.ntmps80
  go_upto_region 1 with (fail)
  obtain ⟨w1, e1, hb1, hz1, k0, k1⟩ := box2 w #[.int .i64 v.re, .int .i64 v.im] #[.int .i64 0, .int .i64 0, .int .i64 0, .int .i64 0, .int .i64 0, .int .i64 0, .int .i64 0, .int .i64 0] 30 38
  rw [← e1]; clear e1
  obtain ⟨_, n0, n1, _, o0, o1⟩ := hC.carry hb1
  have c0 := k0.cell
  have c1 := k1.cell
  have f1 := k1.frozen
  go_wp2_with fail
  with_reducible refine fin8 (B := w.heap.size) (v := w) 38 hb1 (by omega) k1 (fun X hX kX => ?_)
  have cX := kX.cell
  clear c0 c1 f1 n0 n1 o0 o1
  refine bodyPost_ret (v := .agg #[.int .i64 (⟨v, G.one, G.zero, v⟩ : Mat).a.re, .int .i64 (⟨v, G.one, G.zero, v⟩ : Mat).a.im, .int .i64 (⟨v, G.one, G.zero, v⟩ : Mat).b.re, .int .i64 (⟨v, G.one, G.zero, v⟩ : Mat).b.im, .int .i64 (⟨v, G.one, G.zero, v⟩ : Mat).c.re, .int .i64 (⟨v, G.one, G.zero, v⟩ : Mat).c.im, .int .i64 (⟨v, G.one, G.zero, v⟩ : Mat).d.re, .int .i64 (⟨v, G.one, G.zero, v⟩ : Mat).d.im]) (by simp [results, Tryd.results80, go_sem, cX, G.one, G.zero]) rfl ?_
  exact ⟨rfl, hX⟩
set_option maxHeartbeats 1000000 in
theorem kFn2_any (v : G) (w : World) (hC : Con w) :
    Calls Tryd.prog 81 #[.agg #[.int .i64 v.re, .int .i64 v.im]] w fun e w' => e = .returned (.agg #[.int .i64 (⟨G.one, v, G.zero, G.one⟩ : Mat).a.re, .int .i64 (⟨G.one, v, G.zero, G.one⟩ : Mat).a.im, .int .i64 (⟨G.one, v, G.zero, G.one⟩ : Mat).b.re, .int .i64 (⟨G.one, v, G.zero, G.one⟩ : Mat).b.im, .int .i64 (⟨G.one, v, G.zero, G.one⟩ : Mat).c.re, .int .i64 (⟨G.one, v, G.zero, G.one⟩ : Mat).c.im, .int .i64 (⟨G.one, v, G.zero, G.one⟩ : Mat).d.re, .int .i64 (⟨G.one, v, G.zero, G.one⟩ : Mat).d.im]) ∧ Below w.heap.size w w' := by
  go_enter Tryd.func81, Tryd.ntmps81
  go_upto_region 1 with (fail)
  obtain ⟨w1, e1, hb1, hz1, k0, k1⟩ := box2 w #[.int .i64 v.re, .int .i64 v.im] #[.int .i64 0, .int .i64 0, .int .i64 0, .int .i64 0, .int .i64 0, .int .i64 0, .int .i64 0, .int .i64 0] 30 38
  rw [← e1]; clear e1
  obtain ⟨_, n0, n1, _, o0, o1⟩ := hC.carry hb1
  have c0 := k0.cell
  have c1 := k1.cell
  have f1 := k1.frozen
  go_wp2_with fail
  with_reducible refine fin8 (B := w.heap.size) (v := w) 38 hb1 (by omega) k1 (fun X hX kX => ?_)
  have cX := kX.cell
  clear c0 c1 f1 n0 n1 o0 o1
  refine bodyPost_ret (v := .agg #[.int .i64 (⟨G.one, v, G.zero, G.one⟩ : Mat).a.re, .int .i64 (⟨G.one, v, G.zero, G.one⟩ : Mat).a.im, .int .i64 (⟨G.one, v, G.zero, G.one⟩ : Mat).b.re, .int .i64 (⟨G.one, v, G.zero, G.one⟩ : Mat).b.im, .int .i64 (⟨G.one, v, G.zero, G.one⟩ : Mat).c.re, .int .i64 (⟨G.one, v, G.zero, G.one⟩ : Mat).c.im, .int .i64 (⟨G.one, v, G.zero, G.one⟩ : Mat).d.re, .int .i64 (⟨G.one, v, G.zero, G.one⟩ : Mat).d.im]) (by simp [results, Tryd.results81, go_sem, cX, G.one, G.zero]) rfl ?_
  exact ⟨rfl, hX⟩
set_option maxHeartbeats 1000000 in
theorem kFn3_any (v : G) (w : World) (hC : Con w) :
    Calls Tryd.prog 82 #[.agg #[.int .i64 v.re, .int .i64 v.im]] w fun e w' => e = .returned (.agg #[.int .i64 (⟨G.one, G.zero, v, G.one⟩ : Mat).a.re, .int .i64 (⟨G.one, G.zero, v, G.one⟩ : Mat).a.im, .int .i64 (⟨G.one, G.zero, v, G.one⟩ : Mat).b.re, .int .i64 (⟨G.one, G.zero, v, G.one⟩ : Mat).b.im, .int .i64 (⟨G.one, G.zero, v, G.one⟩ : Mat).c.re, .int .i64 (⟨G.one, G.zero, v, G.one⟩ : Mat).c.im, .int .i64 (⟨G.one, G.zero, v, G.one⟩ : Mat).d.re, .int .i64 (⟨G.one, G.zero, v, G.one⟩ : Mat).d.im]) ∧ Below w.heap.size w w' := by
  go_enter Tryd.func82, Tryd.ntmps82
  go_upto_region 1 with (fail)
  obtain ⟨w1, e1, hb1, hz1, k0, k1⟩ := box2 w #[.int .i64 v.re, .int .i64 v.im] #[.int .i64 0, .int .i64 0, .int .i64 0, .int .i64 0, .int .i64 0, .int .i64 0, .int .i64 0, .int .i64 0] 30 38
  rw [← e1]; clear e1
  obtain ⟨_, n0, n1, _, o0, o1⟩ := hC.carry hb1
  have c0 := k0.cell
  have c1 := k1.cell
  have f1 := k1.frozen
  go_wp2_with fail
  with_reducible refine fin8 (B := w.heap.size) (v := w) 38 hb1 (by omega) k1 (fun X hX kX => ?_)
  have cX := kX.cell
  clear c0 c1 f1 n0 n1 o0 o1
  refine bodyPost_ret (v := .agg #[.int .i64 (⟨G.one, G.zero, v, G.one⟩ : Mat).a.re, .int .i64 (⟨G.one, G.zero, v, G.one⟩ : Mat).a.im, .int .i64 (⟨G.one, G.zero, v, G.one⟩ : Mat).b.re, .int .i64 (⟨G.one, G.zero, v, G.one⟩ : Mat).b.im, .int .i64 (⟨G.one, G.zero, v, G.one⟩ : Mat).c.re, .int .i64 (⟨G.one, G.zero, v, G.one⟩ : Mat).c.im, .int .i64 (⟨G.one, G.zero, v, G.one⟩ : Mat).d.re, .int .i64 (⟨G.one, G.zero, v, G.one⟩ : Mat).d.im]) (by simp [results, Tryd.results82, go_sem, cX, G.one, G.zero]) rfl ?_
  exact ⟨rfl, hX⟩
set_option maxHeartbeats 1000000 in
theorem kFn4_any (v : G) (w : World) (hC : Con w) :
    Calls Tryd.prog 83 #[.agg #[.int .i64 v.re, .int .i64 v.im]] w fun e w' => e = .returned (.agg #[.int .i64 (⟨v, G.zero, G.one, v⟩ : Mat).a.re, .int .i64 (⟨v, G.zero, G.one, v⟩ : Mat).a.im, .int .i64 (⟨v, G.zero, G.one, v⟩ : Mat).b.re, .int .i64 (⟨v, G.zero, G.one, v⟩ : Mat).b.im, .int .i64 (⟨v, G.zero, G.one, v⟩ : Mat).c.re, .int .i64 (⟨v, G.zero, G.one, v⟩ : Mat).c.im, .int .i64 (⟨v, G.zero, G.one, v⟩ : Mat).d.re, .int .i64 (⟨v, G.zero, G.one, v⟩ : Mat).d.im]) ∧ Below w.heap.size w w' := by
  go_enter Tryd.func83, Tryd.ntmps83
  go_upto_region 1 with (fail)
  obtain ⟨w1, e1, hb1, hz1, k0, k1⟩ := box2 w #[.int .i64 v.re, .int .i64 v.im] #[.int .i64 0, .int .i64 0, .int .i64 0, .int .i64 0, .int .i64 0, .int .i64 0, .int .i64 0, .int .i64 0] 30 38
  rw [← e1]; clear e1
  obtain ⟨_, n0, n1, _, o0, o1⟩ := hC.carry hb1
  have c0 := k0.cell
  have c1 := k1.cell
  have f1 := k1.frozen
  go_wp2_with fail
  with_reducible refine fin8 (B := w.heap.size) (v := w) 38 hb1 (by omega) k1 (fun X hX kX => ?_)
  have cX := kX.cell
  clear c0 c1 f1 n0 n1 o0 o1
  refine bodyPost_ret (v := .agg #[.int .i64 (⟨v, G.zero, G.one, v⟩ : Mat).a.re, .int .i64 (⟨v, G.zero, G.one, v⟩ : Mat).a.im, .int .i64 (⟨v, G.zero, G.one, v⟩ : Mat).b.re, .int .i64 (⟨v, G.zero, G.one, v⟩ : Mat).b.im, .int .i64 (⟨v, G.zero, G.one, v⟩ : Mat).c.re, .int .i64 (⟨v, G.zero, G.one, v⟩ : Mat).c.im, .int .i64 (⟨v, G.zero, G.one, v⟩ : Mat).d.re, .int .i64 (⟨v, G.zero, G.one, v⟩ : Mat).d.im]) (by simp [results, Tryd.results83, go_sem, cX, G.one, G.zero]) rfl ?_
  exact ⟨rfl, hX⟩
end Go.Proofs.YthlnmoecmicofaaDoor
