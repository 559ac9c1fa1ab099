/- The reference's Turn. -/
import Derived.Test.YtcihiglpahhboaaGreatDoorBaseF
namespace Go.Proofs.YtcihiglpahhboaaGreatDoor
open Go.RowKit
set_option maxRecDepth 100000
set_option maxHeartbeats 1000000 in
theorem qTurn_any (a : G) (n : Int) (w : World) (h : a.nrm ≤ 9223372036854775807) :
    Calls Tryz.prog 72 #[.agg #[.int .i64 a.re, .int .i64 a.im], .int .i64 n] w fun e w' => e = .returned (.agg #[.int .i64 ((turnI n).mul a).re, .int .i64 ((turnI n).mul a).im]) ∧ Below w.heap.size w w' := by
  obtain ⟨q, hq⟩ : ∃ q, (n % 4).toNat = q := ⟨_, rfl⟩
  have hq4 : q < 4 := by omega
  have t1 : wrap64 (n.tmod 4 + 4) = n.tmod 4 + 4 := by
    have := Int.tmod_lt_of_pos n (show (0 : Int) < 4 by decide)
    have := Int.lt_tmod_of_pos n (show (0 : Int) < 4 by decide)
    unfold wrap64; omega
  have t2 : (n.tmod 4 + 4).tmod 4 = (q : Int) := by
    have h1 := Int.lt_tmod_of_pos n (show (0 : Int) < 4 by decide)
    rw [Int.tmod_eq_emod_of_nonneg (by omega), Int.add_emod_right, Int.tmod_eq_emod]
    split <;> omega
  have HB : Hid (∀ k, ((turnG k).mul a).nrm ≤ 9223372036854775807) := fun k => by rw [turn_mul_nrm]; exact h
  have HE : Hid ((turnI n).mul a = (turnG q).mul a) := by show _ = _; unfold turnI; rw [hq]
  have H0 := hide (turn_zero a)
  rw [HE.out]
  clear HE hq h
  go_enter Tryz.func72, Tryz.ntmps72
  go_upto_region 1 with (fail)
  obtain ⟨w1, e1, hb1, hz1, k0, kR⟩ := box2 w #[.int .i64 a.re, .int .i64 a.im] #[.int .i64 0, .int .i64 0] 54 54
  rw [← e1]; clear e1
  go_wp2_with fail
  go_loopw [5] (fun i wr => ∃ k : Nat, k ≤ q ∧ i = .int .i64 k ∧ Blk wr w.heap.size 54 #[.int .i64 ((turnG k).mul a).re, .int .i64 ((turnG k).mul a).im] ∧ Blk wr (w.heap.size + 1) 54 #[.int .i64 0, .int .i64 0] ∧ Below w.heap.size w wr) (fun i _ => q - (intOf i).toNat)
  case atStart => exact ⟨0, by omega, rfl, by rw [H0.out]; exact k0, kR, hb1⟩
  case round =>
    rename World => wo
    clear k0 kR hb1
    obtain ⟨k, hk, rfl, kA, kR, hbo⟩ := hrel
    have hn := HB.out k
    obtain ⟨z, hz⟩ : ∃ z, (turnG k).mul a = z := ⟨_, rfl⟩
    have HZ := hide hz
    rw [hz] at kA hn
    clear hz
    have c0 := kA.cell
    have f0 := kA.frozen
    by_cases hlt : k < q
    · have hw : wrap64 (-z.im) = -z.im := by unfold G.nrm at hn; unfold wrap64; omega
      clear hn
      go_wp2_with fail
      have kX := blk2 (u0 := .int .i64 (-z.im)) (u1 := .int .i64 z.re) kA
      have kRX := far2 (u0 := .int .i64 (-z.im)) (u1 := .int .i64 z.re) kR (show w.heap.size + 1 ≠ w.heap.size by omega)
      have hX := below2 (u0 := .int .i64 (-z.im)) (u1 := .int .i64 z.re) hbo (Nat.le_refl w.heap.size)
      go_roundw
      case rel => exact ⟨k + 1, by omega, by go_num, by rw [turn_step, HZ.out]; exact kX, kRX, hX⟩
      case measure => simp [intOf]; omega
    · obtain rfl : k = q := by omega
      have cR := kR.cell
      have fR := kR.frozen
      have kX := blk2 (u0 := .int .i64 z.re) (u1 := .int .i64 z.im) kR
      have hX := below2 (u0 := .int .i64 z.re) (u1 := .int .i64 z.im) hbo (show w.heap.size ≤ w.heap.size + 1 by omega)
      clear hn
      go_wp2_with fail
      have cX := kX.cell
      clear c0 f0 cR fR
      refine bodyPost_ret (v := .agg #[.int .i64 z.re, .int .i64 z.im]) (by simp [results, Tryz.results72, go_sem, cX]) rfl ?_
      exact ⟨by rw [HZ.out], hX⟩
end Go.Proofs.YtcihiglpahhboaaGreatDoor
