/- Quotients of the program; equality of complex integers. -/
import Derived.Test.YthlnmoecmicofaaDoorNCalls
namespace Go.Proofs.YthlnmoecmicofaaDoor
open Go.RowKit Go.Shelf
set_option maxRecDepth 100000

theorem eqG (a b : G) (w : World) : (binOp .eql 30 (.agg #[.int .i64 a.re, .int .i64 a.im]) (.agg #[.int .i64 b.re, .int .i64 b.im])).run Tryd.prog w = .ok (.bool (decide (a = b))) w := by
  have hd : decide (a = b) = (decide (a.re = b.re) && decide (a.im = b.im)) := by
    rw [Bool.eq_iff_iff]; simp only [decide_eq_true_eq, Bool.and_eq_true]
    exact ⟨fun h => by rw [h]; exact ⟨rfl, rfl⟩, fun h => G.ext' h.1 h.2⟩
  have hh : (Op.equalIn 10000 30 (.agg #[.int .i64 a.re, .int .i64 a.im]) (.agg #[.int .i64 b.re, .int .i64 b.im])).run Tryd.prog w = .ok (decide (a = b)) w := by
    rw [hd, show (10000 : Nat) = 9999 + 1 from rfl, run_equalIn_struct w 9999 30 _ _ (by kernel_rfl) (by kernel_rfl)]
    by_cases h1 : a.re = b.re <;> by_cases h2 : a.im = b.im <;> simp [Program.fieldsOf, Tryd.underlying30, Op.eqFields, go_sem, run_equalIn_int _ _ _ _ _ _ _ Tryd.underlying3, h1, h2]
  simp only [binOp, Op.equal, Op.maxDepth]
  simp [hh, go_sem]
theorem neqG (a b : G) (w : World) : (binOp .neq 30 (.agg #[.int .i64 a.re, .int .i64 a.im]) (.agg #[.int .i64 b.re, .int .i64 b.im])).run Tryd.prog w = .ok (.bool (!decide (a = b))) w := by
  have h := eqG a b w
  simp only [binOp, Op.equal, Op.maxDepth] at h ⊢
  have hd : decide (a = b) = (decide (a.re = b.re) && decide (a.im = b.im)) := by
    rw [Bool.eq_iff_iff]; simp only [decide_eq_true_eq, Bool.and_eq_true]
    exact ⟨fun h => by rw [h]; exact ⟨rfl, rfl⟩, fun h => G.ext' h.1 h.2⟩
  have hh : (Op.equalIn 10000 30 (.agg #[.int .i64 a.re, .int .i64 a.im]) (.agg #[.int .i64 b.re, .int .i64 b.im])).run Tryd.prog w = .ok (decide (a = b)) w := by
    rw [hd, show (10000 : Nat) = 9999 + 1 from rfl, run_equalIn_struct w 9999 30 _ _ (by kernel_rfl) (by kernel_rfl)]
    by_cases h1 : a.re = b.re <;> by_cases h2 : a.im = b.im <;> simp [Program.fieldsOf, Tryd.underlying30, Op.eqFields, go_sem, run_equalIn_int _ _ _ _ _ _ _ Tryd.underlying3, h1, h2]
  simp [hh, go_sem]
/-- A quotient of two complex integers. -/
structure Pr where
  n : G
  d : G
def Pr.zero : Pr := ⟨.zero, .zero⟩
def quo (a b : G) : Pr := if b = .zero then .zero else ⟨a, b⟩
def quoE (b : G) : Int := if b = .zero then 17 else 0

set_option maxHeartbeats 1000000 in
theorem quotient_any (a b : G) (w : World) (hC : Con w) :
    Calls Tryd.prog 65 #[.agg #[.int .i64 a.re, .int .i64 a.im], .agg #[.int .i64 b.re, .int .i64 b.im]] w fun e w' => e = .returned (.tuple #[.agg #[.int .i64 (quo a b).n.re, .int .i64 (quo a b).n.im, .int .i64 (quo a b).d.re, .int .i64 (quo a b).d.im], .int .i64 (quoE b)]) ∧ Below w.heap.size w w' := by
  by_cases hb : b = .zero
  · subst hb
    have h1 : quo a .zero = .zero := by unfold quo; rw [if_pos rfl]
    have h2 : quoE .zero = 17 := by unfold quoE; rw [if_pos rfl]
    have z0 : G.zero.re = 0 := rfl
    have z1 : G.zero.im = 0 := rfl
    rw [h1, h2, z0, z1]
    clear h1 h2
    clear z0 z1
    go_enter Tryd.func65, Tryd.ntmps65
    go_upto_region 1 with (fail)
    obtain ⟨w1, e1, hb1, hz1, k0, k1, k2⟩ := box3 w #[.int .i64 a.re, .int .i64 a.im] #[.int .i64 0, .int .i64 0] #[.int .i64 0, .int .i64 0, .int .i64 0, .int .i64 0] 30 30 32
    rw [← e1]; clear e1
    obtain ⟨_, n0, n1, _, _, _⟩ := hC.carry hb1
    have c0 := k0.cell
    have c1 := k1.cell
    have c2 := k2.cell
    have f2 := k2.frozen
    go_wp2_with fail
    with_reducible refine fin4 (B := w.heap.size) (v := w) 32 hb1 (by omega) k2 (fun X hX kX => ?_)
    have cX := kX.cell
    clear c0 c1 c2 f2
    refine bodyPost_ret (v := .tuple #[.agg #[.int .i64 Pr.zero.n.re, .int .i64 Pr.zero.n.im, .int .i64 Pr.zero.d.re, .int .i64 Pr.zero.d.im], .int .i64 17]) (by simp [results, Tryd.results65, go_sem, cX, Pr.zero, G.zero]) rfl ?_
    exact ⟨rfl, hX⟩
  · have h1 : quo a b = ⟨a, b⟩ := by unfold quo; rw [if_neg hb]
    have h2 : quoE b = 0 := by unfold quoE; rw [if_neg hb]
    rw [h1, h2]
    by_cases hr : b.re = 0
    · have hi : ¬ b.im = 0 := fun e => hb (G.ext' hr e)
      clear h1 h2 hb
      go_enter Tryd.func65, Tryd.ntmps65
      go_upto_region 1 with (fail)
      obtain ⟨w1, e1, hb1, hz1, k0, k1, k2⟩ := box3 w #[.int .i64 a.re, .int .i64 a.im] #[.int .i64 0, .int .i64 b.im] #[.int .i64 0, .int .i64 0, .int .i64 0, .int .i64 0] 30 30 32
      rw [← e1]; clear e1
      obtain ⟨_, n0, n1, _, _, _⟩ := hC.carry hb1
      have c0 := k0.cell
      have c1 := k1.cell
      have c2 := k2.cell
      have f2 := k2.frozen
      go_wp2_with fail
      with_reducible refine fin4 (B := w.heap.size) (v := w) 32 hb1 (by omega) k2 (fun X hX kX => ?_)
      have cX := kX.cell
      clear c0 c1 c2 f2
      refine bodyPost_ret (v := .tuple #[.agg #[.int .i64 (⟨a, b⟩ : Pr).n.re, .int .i64 (⟨a, b⟩ : Pr).n.im, .int .i64 (⟨a, b⟩ : Pr).d.re, .int .i64 (⟨a, b⟩ : Pr).d.im], .int .i64 0]) (by simp [results, Tryd.results65, go_sem, cX, hr]) rfl ?_
      exact ⟨rfl, hX⟩
    · clear h1 h2 hb
      go_enter Tryd.func65, Tryd.ntmps65
      go_upto_region 1 with (fail)
      obtain ⟨w1, e1, hb1, hz1, k0, k1, k2⟩ := box3 w #[.int .i64 a.re, .int .i64 a.im] #[.int .i64 b.re, .int .i64 b.im] #[.int .i64 0, .int .i64 0, .int .i64 0, .int .i64 0] 30 30 32
      rw [← e1]; clear e1
      obtain ⟨_, n0, n1, _, _, _⟩ := hC.carry hb1
      have c0 := k0.cell
      have c1 := k1.cell
      have c2 := k2.cell
      have f2 := k2.frozen
      go_wp2_with fail
      with_reducible refine fin4 (B := w.heap.size) (v := w) 32 hb1 (by omega) k2 (fun X hX kX => ?_)
      have cX := kX.cell
      clear c0 c1 c2 f2
      refine bodyPost_ret (v := .tuple #[.agg #[.int .i64 (⟨a, b⟩ : Pr).n.re, .int .i64 (⟨a, b⟩ : Pr).n.im, .int .i64 (⟨a, b⟩ : Pr).d.re, .int .i64 (⟨a, b⟩ : Pr).d.im], .int .i64 0]) (by simp [results, Tryd.results65, go_sem, cX]) rfl ?_
      exact ⟨rfl, hX⟩

/-! ### of, at a quotient of two entries -/
set_option maxHeartbeats 1000000 in
theorem Input1_any (p : Mat) (d : G) (w : World) (hC : Con w) :
    Calls Tryd.prog 64 #[.agg #[.int .i64 p.a.re, .int .i64 p.a.im, .int .i64 p.b.re, .int .i64 p.b.im, .int .i64 p.c.re, .int .i64 p.c.im, .int .i64 p.d.re, .int .i64 p.d.im], .agg #[.int .i64 d.re, .int .i64 d.im]] w fun e w' => e = .returned (.tuple #[.agg #[.int .i64 (quo p.a p.c).n.re, .int .i64 (quo p.a p.c).n.im, .int .i64 (quo p.a p.c).d.re, .int .i64 (quo p.a p.c).d.im], .int .i64 (quoE p.c)]) ∧ Below w.heap.size w w' := by
  go_enter Tryd.func64, Tryd.ntmps64
  go_upto_region 1 with (fail)
  obtain ⟨w1, e1, hb1, hz1, k0, k1, k2⟩ := box3 w #[.int .i64 p.a.re, .int .i64 p.a.im, .int .i64 p.b.re, .int .i64 p.b.im, .int .i64 p.c.re, .int .i64 p.c.im, .int .i64 p.d.re, .int .i64 p.d.im] #[.int .i64 d.re, .int .i64 d.im] #[.int .i64 0, .int .i64 0, .int .i64 0, .int .i64 0] 38 30 32
  rw [← e1]; clear e1
  have c0 := k0.cell
  have c1 := k1.cell
  go_wp2_with fail
  refine (quotient_any p.a p.c _ (hC.carry hb1)).mono ?_
  rintro e w2 ⟨rfl, hb2⟩
  have hbw := below_next hb1 hb2
  have k3 := carryK k2 hb2
  have c3 := k3.cell
  have f3 := k3.frozen
  clear c0 c1
  go_wp2_with fail
  with_reducible refine fin4 (B := w.heap.size) (v := w) 32 hbw (by omega) k3 (fun X hX kX => ?_)
  have cX := kX.cell
  clear c3 f3
  refine bodyPost_ret (v := .tuple #[.agg #[.int .i64 (quo p.a p.c).n.re, .int .i64 (quo p.a p.c).n.im, .int .i64 (quo p.a p.c).d.re, .int .i64 (quo p.a p.c).d.im], .int .i64 (quoE p.c)]) (by simp [results, Tryd.results64, go_sem, cX]) rfl ?_
  exact ⟨rfl, hX⟩
set_option maxHeartbeats 1000000 in
theorem Transfer1_any (p : Mat) (d : G) (w : World) (hC : Con w) :
    Calls Tryd.prog 66 #[.agg #[.int .i64 p.a.re, .int .i64 p.a.im, .int .i64 p.b.re, .int .i64 p.b.im, .int .i64 p.c.re, .int .i64 p.c.im, .int .i64 p.d.re, .int .i64 p.d.im], .agg #[.int .i64 d.re, .int .i64 d.im]] w fun e w' => e = .returned (.tuple #[.agg #[.int .i64 (quo d p.a).n.re, .int .i64 (quo d p.a).n.im, .int .i64 (quo d p.a).d.re, .int .i64 (quo d p.a).d.im], .int .i64 (quoE p.a)]) ∧ Below w.heap.size w w' := by
  go_enter Tryd.func66, Tryd.ntmps66
  go_upto_region 1 with (fail)
  obtain ⟨w1, e1, hb1, hz1, k0, k1, k2⟩ := box3 w #[.int .i64 p.a.re, .int .i64 p.a.im, .int .i64 p.b.re, .int .i64 p.b.im, .int .i64 p.c.re, .int .i64 p.c.im, .int .i64 p.d.re, .int .i64 p.d.im] #[.int .i64 d.re, .int .i64 d.im] #[.int .i64 0, .int .i64 0, .int .i64 0, .int .i64 0] 38 30 32
  rw [← e1]; clear e1
  have c0 := k0.cell
  have c1 := k1.cell
  go_wp2_with fail
  refine (quotient_any d p.a _ (hC.carry hb1)).mono ?_
  rintro e w2 ⟨rfl, hb2⟩
  have hbw := below_next hb1 hb2
  have k3 := carryK k2 hb2
  have c3 := k3.cell
  have f3 := k3.frozen
  clear c0 c1
  go_wp2_with fail
  with_reducible refine fin4 (B := w.heap.size) (v := w) 32 hbw (by omega) k3 (fun X hX kX => ?_)
  have cX := kX.cell
  clear c3 f3
  refine bodyPost_ret (v := .tuple #[.agg #[.int .i64 (quo d p.a).n.re, .int .i64 (quo d p.a).n.im, .int .i64 (quo d p.a).d.re, .int .i64 (quo d p.a).d.im], .int .i64 (quoE p.a)]) (by simp [results, Tryd.results66, go_sem, cX]) rfl ?_
  exact ⟨rfl, hX⟩
end Go.Proofs.YthlnmoecmicofaaDoor
