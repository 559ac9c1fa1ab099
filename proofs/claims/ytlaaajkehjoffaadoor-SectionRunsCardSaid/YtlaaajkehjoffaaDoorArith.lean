/- The contracts of the arithmetic of sections: abs, unit, margin, raw, limited, step of the program; abs, Unit, Floor, raw, Step, Room, Stable of the reference. -/
import Derived.Test.YtlaaajkehjoffaaDoorLeaf
import Derived.Test.YtlaaajkehjoffaaDoorOver
import Derived.RegionTactic
import Derived.BigRegion
namespace Go.Proofs.YtlaaajkehjoffaaDoor
open Go.RowKit
set_option maxRecDepth 100000

theorem abs_any (n : Int) (w : World) (h1 : -9223372036854775807 ≤ n) (h2 : n ≤ 9223372036854775807) :
    Calls Tryd.prog 75 #[.int .i64 n] w fun r w' => r = .returned (.int .i64 (ab n)) ∧ w = w' := by
  go_enter Tryd.func75, Tryd.ntmps75
  go_wp2
  all_goals (go_ret; exact ⟨by simp [ab]; omega, rfl⟩)

theorem rabs_any (n : Int) (w : World) (h1 : -9223372036854775807 ≤ n) (h2 : n ≤ 9223372036854775807) :
    Calls Tryd.prog 72 #[.int .i64 n] w fun r w' => r = .returned (.int .i64 (ab n)) ∧ w = w' := by
  go_enter Tryd.func72, Tryd.ntmps72
  go_wp2
  all_goals (go_ret; exact ⟨by simp [ab]; omega, rfl⟩)

theorem unit_any (s : Sec) (w : World) (h : s.Ok) :
    Calls Tryd.prog 76 #[.agg #[.int .i64 s.b0, .int .i64 s.b1, .int .i64 s.b2, .int .i64 s.a1, .int .i64 s.a2, .int .i64 s.sh]] w fun r w' => r = .returned (.int .i64 s.unit) ∧ Below w.heap.size w w' := by
  have h1 := h.shl
  have h2 := h.shh
  have hu := unit_bd h
  have e : wrap64 (2 ^ s.sh.toNat) = s.unit := by unfold Sec.unit at *; rw [IntWalk.wrap64_in _ (by omega)]
  have E := hide e; clear e
  go_enter Tryd.func76, Tryd.ntmps76
  go_wp2
  go_ret
  exact ⟨by simp [E.out], (Below.refl _ _).alloc (Nat.le_refl _) _⟩

theorem margin_any (s : Sec) (w : World) (h : s.Ok) :
    Calls Tryd.prog 74 #[.agg #[.int .i64 s.b0, .int .i64 s.b1, .int .i64 s.b2, .int .i64 s.a1, .int .i64 s.a2, .int .i64 s.sh]] w fun r w' => r = .returned (.int .i64 s.room) ∧ Below w.heap.size w w' := by
  go_enter Tryd.func74, Tryd.ntmps74
  go_wp2
  obtain ⟨w1, e1, hb0, hz, hk⟩ := box1 w #[.int .i64 s.b0, .int .i64 s.b1, .int .i64 s.b2, .int .i64 s.a1, .int .i64 s.a2, .int .i64 s.sh] 32
  rw [← e1]; clear e1
  have c0 := over_blk (B := w1.heap.size) hk (by omega)
  have hu := unit_bd h
  have q1 := ab_bd h.a1l h.a1h
  have q2 := ab_bd h.a2l h.a2h
  refine wp_region_over w1.heap.size (by kernel_rfl) (by kernel_rfl) ?_; (repeat (first | go_big_quiet_step (first | (go_at_call 76; exact over_call (Nat.le_refl _) (unit_any s _ h)) | (go_at_call 75; exact over_same (abs_any _ _ (by have := h.a1l; have := h.a2l; omega) (by have := h.a1h; have := h.a2h; omega)))) | quiet_step (first | (go_at_call 76; exact over_call (Nat.le_refl _) (unit_any s _ h)) | (go_at_call 75; exact over_same (abs_any _ _ (by have := h.a1l; have := h.a2l; omega) (by have := h.a1h; have := h.a2h; omega)))))); refine wpQuiet_nil ?_; rintro W ⟨x, rfl⟩
  go_wp2
  go_ret
  exact ⟨by simp [Sec.room], hb0.trans ((over_below _ _ _).mono (by omega))⟩

theorem raw_any (s : Sec) (y : St) (i : Int) (w : World) (h : s.Ok) (hy : y.Ok) (h1 : -32767 ≤ i) (h2 : i ≤ 32767) :
    Calls Tryd.prog 68 #[.agg #[.int .i64 s.b0, .int .i64 s.b1, .int .i64 s.b2, .int .i64 s.a1, .int .i64 s.a2, .int .i64 s.sh], .agg #[.int .i64 y.x1, .int .i64 y.x2, .int .i64 y.y1, .int .i64 y.y2], .int .i64 i] w fun r w' => r = .returned (.int .i64 (s.raw y i)) ∧ Below w.heap.size w w' := by
  have a := @mul_bd s.b0 i (by have := h.b0l; omega) (by have := h.b0h; omega) (by omega) (by omega)
  have b := @mul_bd s.b1 y.x1 (by have := h.b1l; omega) (by have := h.b1h; omega) (by have := hy.x1l; omega) (by have := hy.x1h; omega)
  have c := @mul_bd s.b2 y.x2 (by have := h.b2l; omega) (by have := h.b2h; omega) (by have := hy.x2l; omega) (by have := hy.x2h; omega)
  have d := @mul_bd s.a1 y.y1 (by have := h.a1l; omega) (by have := h.a1h; omega) (by have := hy.y1l; omega) (by have := hy.y1h; omega)
  have e := @mul_bd s.a2 y.y2 (by have := h.a2l; omega) (by have := h.a2h; omega) (by have := hy.y2l; omega) (by have := hy.y2h; omega)
  have g1 := h.shl
  have g2 := h.shh
  go_enter Tryd.func68, Tryd.ntmps68
  go_wp2
  go_ret
  exact ⟨by simp [Sec.raw, Sec.sum, Sec.unit], ((Below.refl _ _).alloc (Nat.le_refl _) _).alloc (by simp) _⟩

theorem step_any (s : Sec) (y : St) (i : Int) (w : World) (h : s.Ok) (hy : y.Ok) (h1 : -32767 ≤ i) (h2 : i ≤ 32767) :
    Calls Tryd.prog 73 #[.agg #[.int .i64 s.b0, .int .i64 s.b1, .int .i64 s.b2, .int .i64 s.a1, .int .i64 s.a2, .int .i64 s.sh], .agg #[.int .i64 y.x1, .int .i64 y.x2, .int .i64 y.y1, .int .i64 y.y2], .int .i64 i] w fun r w' => r = .returned (.tuple #[.int .i64 (s.out y i), .agg #[.int .i64 (s.next y i).x1, .int .i64 (s.next y i).x2, .int .i64 (s.next y i).y1, .int .i64 (s.next y i).y2]]) ∧ Below w.heap.size w w' := by
  go_enter Tryd.func73, Tryd.ntmps73
  go_wp2_with fail
  obtain ⟨w1, e1, hb0, hz, k0, k1, k2⟩ := box3 w #[.int .i64 s.b0, .int .i64 s.b1, .int .i64 s.b2, .int .i64 s.a1, .int .i64 s.a2, .int .i64 s.sh] #[.int .i64 y.x1, .int .i64 y.x2, .int .i64 y.y1, .int .i64 y.y2] #[.int .i64 0, .int .i64 0, .int .i64 0, .int .i64 0] 32 34 34
  rw [← e1]; clear e1
  refine (raw_any s y i _ h hy h1 h2).mono ?_
  rintro e w2 ⟨rfl, hb1⟩
  have hb2 : Below w.heap.size w w2 := below_step hb0 hb1 (by omega)
  have k0' := k0.below hb1 (by omega)
  have k1' := k1.below hb1 (by omega)
  have k2' := k2.below hb1 (by omega)
  have c1 := k1'.cell
  have c2 := k2'.cell
  have f2 := k2'.frozen
  go_wp2_with (go_at_call 69; refine (limited_any _ _).mono ?_; rintro e w' ⟨rfl, rfl⟩)
  go_region
  go_wp2
  refine bodyPost_ret (v := .tuple #[.int .i64 (s.out y i), .agg #[.int .i64 (s.next y i).x1, .int .i64 (s.next y i).x2, .int .i64 (s.next y i).y1, .int .i64 (s.next y i).y2]]) (by simp [results, Tryd.results73, go_sem, c2, Sec.out, Sec.next]) rfl ?_
  exact ⟨rfl, (by repeat (first | exact hb2 | exact Below.refl _ _ | refine Below.drew ?_ | refine below_drewN ?_ _ | refine below_set ?_ (by omega) _ | refine below_new ?_ (by omega) _))⟩

/-! ### The reference -/

theorem rUnit_any (s : Sec) (w : World) (h : s.Ok) :
    Calls Tryd.prog 80 #[.agg #[.int .i64 s.b0, .int .i64 s.b1, .int .i64 s.b2, .int .i64 s.a1, .int .i64 s.a2, .int .i64 s.sh]] w fun r w' => r = .returned (.int .i64 s.unit) ∧ Below w.heap.size w w' := by
  have g1 := h.shl
  have g2 := h.shh
  go_enter Tryd.func80, Tryd.ntmps80
  go_wp2
  obtain ⟨w1, e1, hb0, hz, k0⟩ := box1 w #[.int .i64 s.b0, .int .i64 s.b1, .int .i64 s.b2, .int .i64 s.a1, .int .i64 s.a2, .int .i64 s.sh] 23
  rw [← e1]; clear e1
  have c0 := k0.cell
  go_loop [3, 4] (fun u i => ∃ k : Nat, (k : Int) ≤ s.sh ∧ i = .int .i64 k ∧ u = .int .i64 (pow2 k)) (fun _ i => (s.sh - intOf i).toNat)
  case atStart => exact ⟨0, by omega, rfl, rfl⟩
  case round =>
    obtain ⟨k, hk, rfl, rfl⟩ := hrel
    have hp := pow2_bd (k := k) (by omega)
    have hs := hide (pow2_succ k)
    go_wp2
    · go_round
      case rel => exact ⟨k + 1, by omega, by go_num, by rw [hs.out]⟩
      case measure => simp [intOf]; omega
    · go_ret
      exact ⟨by simp; unfold Sec.unit; rw [pow2]; congr 1; omega, (by repeat (first | exact hb0 | exact Below.refl _ _ | refine Below.drew ?_ | refine below_drewN ?_ _ | refine below_set ?_ (by omega) _ | refine below_new ?_ (by omega) _))⟩
end Go.Proofs.YtlaaajkehjoffaaDoor
