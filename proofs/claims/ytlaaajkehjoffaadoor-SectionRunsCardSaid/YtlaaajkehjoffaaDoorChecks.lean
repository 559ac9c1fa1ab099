/- The checks of sections, states and signals, of the program and of the reference. -/
import Derived.Test.YtlaaajkehjoffaaDoorLists
namespace Go.Proofs.YtlaaajkehjoffaaDoor
open Go.RowKit
set_option maxRecDepth 100000

theorem numbers_any (s : Sec) (w : World) :
    Calls Tryd.prog 79 #[.agg #[.int .i64 s.b0, .int .i64 s.b1, .int .i64 s.b2, .int .i64 s.a1, .int .i64 s.a2, .int .i64 s.sh]] w fun r w' => r = .returned (.agg #[.int .i64 s.b0, .int .i64 s.b1, .int .i64 s.b2, .int .i64 s.a1, .int .i64 s.a2, .int .i64 s.sh]) ∧ Below w.heap.size w w' := by
  go_enter Tryd.func79, Tryd.ntmps79
  go_wp2
  refine bodyPost_ret (v := .agg #[.int .i64 s.b0, .int .i64 s.b1, .int .i64 s.b2, .int .i64 s.a1, .int .i64 s.a2, .int .i64 s.sh]) (by simp [results, Tryd.results79, go_sem]) rfl ?_
  exact ⟨rfl, (by repeat (first | exact Below.refl _ _ | exact Below.refl _ _ | refine Below.drew ?_ | refine below_drewN ?_ _ | refine below_set ?_ (by omega) _ | refine below_new ?_ (by omega) _))⟩

set_option maxHeartbeats 1000000 in
theorem checkSection_any (s : Sec) (w : World) :
    Calls Tryd.prog 51 #[.agg #[.int .i64 s.b0, .int .i64 s.b1, .int .i64 s.b2, .int .i64 s.a1, .int .i64 s.a2, .int .i64 s.sh]] w fun r w' => r = .returned (.int .i64 s.err) ∧ Below w.heap.size w w' := by
  go_enter Tryd.func51, Tryd.ntmps51
  go_wp2_with fail
  obtain ⟨w1, e1, hb0, hz, k0⟩ := box1 w #[.int .i64 s.b0, .int .i64 s.b1, .int .i64 s.b2, .int .i64 s.a1, .int .i64 s.a2, .int .i64 s.sh] 32
  rw [← e1]; clear e1
  refine (numbers_any s _).mono ?_
  rintro e w2 ⟨rfl, hb1⟩
  have hb2 : Below w.heap.size w w2 := below_step hb0 hb1 (by omega)
  have k0' := k0.below hb1 (by omega)
  have hz2 := hb1.size
  go_wp2
  obtain ⟨w3, e3, hb3, hz3, k3⟩ := box1 w2 #[.int .i64 s.b0, .int .i64 s.b1, .int .i64 s.b2, .int .i64 s.a1, .int .i64 s.a2, .int .i64 s.sh] 129
  rw [← e3]; clear e3
  have k0'' := k0'.below hb3 (by omega)
  have c0 : ∀ i W, Below w3.heap.size w3 W → W.cell? ⟨w.heap.size, i, none⟩ = (#[.int .i64 s.b0, .int .i64 s.b1, .int .i64 s.b2, .int .i64 s.a1, .int .i64 s.a2, .int .i64 s.sh] : Array Value)[i]? := fun i W h => (k0''.below h (by omega)).cell i
  have r0 : ∀ W, Below w3.heap.size w3 W → Reads W W.heap.size 1 (some ⟨w2.heap.size, 0, none⟩) 5 (ints [s.b0, s.b1, s.b2, s.a1, s.a2]) := fun W h => by
    have := h.size
    exact reads_block (xs := [s.b0, s.b1, s.b2, s.a1, s.a2, s.sh]) (k3.below h (by omega)) (by simp) (by omega)
  have R0 := hide r0; clear r0
  go_region_held3 (fun W => Below w3.heap.size w3 W) (first | exact (Below.refl _ _).drew | (with_reducible assumption) | exact below_new ‹Below w3.heap.size w3 _› (Nat.le_refl _) _ | (refine below_set (below_set (below_set (below_set (by assumption) (by omega) _) (by omega) _) (by omega) _) (by omega) _)) (first
    | (go_at_call 87; refine (mapped_any _ vErr enters_tap checkTap_any _ _ _ _ _ (R0.out _ ‹Below w3.heap.size w3 _›) (by omega)).mono ?_; rintro e W' ⟨A1, c1, rfl, hR1, hbW⟩; have hS := below_step ‹Below w3.heap.size w3 _› hbW (Below.size ‹Below w3.heap.size w3 _›))
    | (go_at_call 64; with_reducible (refine (first_any _ _ _ _ _ _ hR1 (by omega)).mono ?_); rintro e W' ⟨rfl, rfl⟩)
    | (go_at_call 64; with_reducible (refine (first_any _ _ _ _ _ _ (reads2 _ _ _ _) (by omega)).mono ?_); rintro e W' ⟨rfl, rfl⟩)
    | (go_at_call 77; refine (within_any _ _ _ _).mono ?_; rintro e W' ⟨rfl, rfl⟩))
  go_wp2
  go_ret
  exact ⟨by simp; exact sec_err_eq s, hb2.trans ((hb3.trans (‹Below w3.heap.size w3 _›.mono (by omega))).mono (by omega))⟩
end Go.Proofs.YtlaaajkehjoffaaDoor
