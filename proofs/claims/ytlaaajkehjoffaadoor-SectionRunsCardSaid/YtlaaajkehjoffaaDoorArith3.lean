/- The contracts of Stable (the reference's), Small, Bound (the reference's), and the plain words of a bound. -/
import Derived.Test.YtlaaajkehjoffaaDoorArith2
namespace Go.Proofs.YtlaaajkehjoffaaDoor
open Go.RowKit
set_option maxRecDepth 100000

/-- Whether a section without rounding is stable. -/
def Sec.stab (s : Sec) : Bool := decide (ab s.a2 < s.unit ∧ ab s.a1 < s.unit + s.a2)

set_option maxHeartbeats 1000000 in
theorem rstable_any (s : Sec) (w : World) (h : s.Ok) :
    Calls Tryd.prog 41 #[.agg #[.int .i64 s.b0, .int .i64 s.b1, .int .i64 s.b2, .int .i64 s.a1, .int .i64 s.a2, .int .i64 s.sh]] w fun r w' => r = .returned (.bool s.stab) ∧ Below w.heap.size w w' := by
  go_enter Tryd.func41, Tryd.ntmps41
  go_wp2
  obtain ⟨w1, e1, hb0, hz, hk⟩ := box1 w #[.int .i64 s.b0, .int .i64 s.b1, .int .i64 s.b2, .int .i64 s.a1, .int .i64 s.a2, .int .i64 s.sh] 23
  rw [← e1]; clear e1
  have c0 := over_blk (B := w1.heap.size) hk (by omega)
  have hu := unit_bd h
  have q1 := ab_bd h.a1l h.a1h
  have q2 := ab_bd h.a2l h.a2h
  have q3 := h.a2l
  have q4 := h.a2h
  by_cases hd : ab s.a2 < s.unit
  · have hd' : decide (ab s.a2 < s.unit) = true := by simpa using hd
    refine wp_region_over w1.heap.size (by kernel_rfl) (by kernel_rfl) ?_; (repeat (first | go_big_quiet_step (first | (go_at_call 80; exact over_call (Nat.le_refl _) (rUnit_any s _ h)) | (go_at_call 72; exact over_same (rabs_any _ _ (by have := h.a1l; have := h.a2l; omega) (by have := h.a1h; have := h.a2h; omega)))) | quiet_step (first | (go_at_call 80; exact over_call (Nat.le_refl _) (rUnit_any s _ h)) | (go_at_call 72; exact over_same (rabs_any _ _ (by have := h.a1l; have := h.a2l; omega) (by have := h.a1h; have := h.a2h; omega)))))); refine wpQuiet_nil ?_; rintro W ⟨x, rfl⟩
    go_wp2
    go_ret
    exact ⟨by simp [Sec.stab]; omega, hb0.trans ((over_below _ _ _).mono (by omega))⟩
  · have hd' : decide (ab s.a2 < s.unit) = false := by simpa using hd
    refine wp_region_over w1.heap.size (by kernel_rfl) (by kernel_rfl) ?_; (repeat (first | go_big_quiet_step (first | (go_at_call 80; exact over_call (Nat.le_refl _) (rUnit_any s _ h)) | (go_at_call 72; exact over_same (rabs_any _ _ (by have := h.a1l; have := h.a2l; omega) (by have := h.a1h; have := h.a2h; omega)))) | quiet_step (first | (go_at_call 80; exact over_call (Nat.le_refl _) (rUnit_any s _ h)) | (go_at_call 72; exact over_same (rabs_any _ _ (by have := h.a1l; have := h.a2l; omega) (by have := h.a1h; have := h.a2h; omega)))))); refine wpQuiet_nil ?_; rintro W ⟨x, rfl⟩
    go_wp2
    go_ret
    exact ⟨by simp [Sec.stab]; omega, hb0.trans ((over_below _ _ _).mono (by omega))⟩

/-- The bound of a contractive section. -/
def Sec.bound (s : Sec) (input : Int) : Int := -((-(input * (ab s.b0 + ab s.b1 + ab s.b2))) / s.room)

theorem nums_bd {s : Sec} (h : s.Ok) : 0 ≤ ab s.b0 + ab s.b1 + ab s.b2 ∧ ab s.b0 + ab s.b1 + ab s.b2 ≤ 98301 := by
  have q1 := ab_bd h.b0l h.b0h
  have q2 := ab_bd h.b1l h.b1h
  have q3 := ab_bd h.b2l h.b2h
  omega
theorem input_bd {s : Sec} (h : s.Ok) {i : Int} (h1 : 0 ≤ i) (h2 : i ≤ 32767) : 0 ≤ i * (ab s.b0 + ab s.b1 + ab s.b2) ∧ i * (ab s.b0 + ab s.b1 + ab s.b2) ≤ 3221028867 := by
  have q := nums_bd h
  constructor
  · exact Int.mul_nonneg h1 q.1
  · have := Int.mul_le_mul h2 q.2 q.1 (by omega)
    omega
theorem room_bd {s : Sec} (h : s.Ok) : s.room ≤ 32768 ∧ -65534 ≤ s.room := by
  have q1 := ab_bd h.a1l h.a1h
  have q2 := ab_bd h.a2l h.a2h
  have := unit_bd h
  unfold Sec.room
  omega

set_option maxHeartbeats 1000000 in
theorem rbound_any (s : Sec) (i : Int) (w : World) (h : s.Ok) (h1 : 0 ≤ i) (h2 : i ≤ 32767) (hr : 1 ≤ s.room) :
    Calls Tryd.prog 38 #[.agg #[.int .i64 s.b0, .int .i64 s.b1, .int .i64 s.b2, .int .i64 s.a1, .int .i64 s.a2, .int .i64 s.sh], .int .i64 i] w fun r w' => r = .returned (.int .i64 (s.bound i)) ∧ Below w.heap.size w w' := by
  go_enter Tryd.func38, Tryd.ntmps38
  go_wp2
  obtain ⟨w1, e1, hb0, hz, hk⟩ := box1 w #[.int .i64 s.b0, .int .i64 s.b1, .int .i64 s.b2, .int .i64 s.a1, .int .i64 s.a2, .int .i64 s.sh] 23
  rw [← e1]; clear e1
  have c0 := over_blk (B := w1.heap.size) hk (by omega)
  have q0 := room_bd h
  have q1 := ab_bd h.b0l h.b0h
  have q2 := ab_bd h.b1l h.b1h
  have q3 := ab_bd h.b2l h.b2h
  have q4 := input_bd h h1 h2
  have q5 := ediv_bd (m := 3221028867) hr (a := -(i * (ab s.b0 + ab s.b1 + ab s.b2))) (by omega) (by omega) (by omega)
  refine wp_region_over w1.heap.size (by kernel_rfl) (by kernel_rfl) ?_; (repeat (first | go_big_quiet_step (first | (go_at_call 37; exact over_call (Nat.le_refl _) (room_any s _ h)) | (go_at_call 81; exact over_same (floor_any _ _ _ (by omega) (by omega) (by omega) (by omega))) | (go_at_call 72; exact over_same (rabs_any _ _ (by have := h.b0l; have := h.b1l; have := h.b2l; omega) (by have := h.b0h; have := h.b1h; have := h.b2h; omega)))) | quiet_step (first | (go_at_call 37; exact over_call (Nat.le_refl _) (room_any s _ h)) | (go_at_call 81; exact over_same (floor_any _ _ _ (by omega) (by omega) (by omega) (by omega))) | (go_at_call 72; exact over_same (rabs_any _ _ (by have := h.b0l; have := h.b1l; have := h.b2l; omega) (by have := h.b0h; have := h.b1h; have := h.b2h; omega)))))); refine wpQuiet_nil ?_; rintro W ⟨x, rfl⟩
  go_wp2
  go_ret
  exact ⟨by simp [Sec.bound], hb0.trans ((over_below _ _ _).mono (by omega))⟩
end Go.Proofs.YtlaaajkehjoffaaDoor
