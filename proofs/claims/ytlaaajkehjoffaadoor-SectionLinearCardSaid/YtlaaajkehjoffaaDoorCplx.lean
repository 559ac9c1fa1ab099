/- The reference's complex integers: Turn, at, Response. -/
import Derived.Test.YtlaaajkehjoffaaDoorSmallR
import Derived.Test.YtlaaajkehjoffaaDoorResp
namespace Go.Proofs.YtlaaajkehjoffaaDoor
open Go.RowKit Go.Shelf
set_option maxRecDepth 100000

/-- A quarter turn, so many times. -/
def turnP (a b : Int) : Nat → Int × Int
  | 0 => (a, b)
  | k + 1 => (-(turnP a b k).2, (turnP a b k).1)
theorem turnP_bd (a b : Int) (k : Nat) (ha : -1000000000 ≤ a ∧ a ≤ 1000000000) (hb : -1000000000 ≤ b ∧ b ≤ 1000000000) : (-1000000000 ≤ (turnP a b k).1 ∧ (turnP a b k).1 ≤ 1000000000) ∧ (-1000000000 ≤ (turnP a b k).2 ∧ (turnP a b k).2 ≤ 1000000000) := by
  induction k with
  | zero => exact ⟨ha, hb⟩
  | succ k ih => simp only [turnP]; omega

set_option maxHeartbeats 1000000 in
theorem turn_any (a b n : Int) (w : World) (hn : 0 ≤ n ∧ n ≤ 1000000) (ha : -1000000000 ≤ a ∧ a ≤ 1000000000) (hb : -1000000000 ≤ b ∧ b ≤ 1000000000) :
    Calls Tryd.prog 99 #[.agg #[.int .i64 a, .int .i64 b], .int .i64 n] w fun e w' => e = .returned (.agg #[.int .i64 (turnP a b (n % 4).toNat).1, .int .i64 (turnP a b (n % 4).toNat).2]) ∧ Below w.heap.size w w' := by
  go_enter Tryd.func99, Tryd.ntmps99
  go_wp2
  obtain ⟨w1, e1, hb1, hz1, k0, k1⟩ := box2 w #[.int .i64 a, .int .i64 b] #[.int .i64 0, .int .i64 0] 57 57
  rw [← e1]; clear e1
  go_loopw [5] (fun i wr => ∃ k : Nat, (k : Int) ≤ n % 4 ∧ i = .int .i64 k ∧ Below w.heap.size w wr ∧ Blk wr w.heap.size 57 #[.int .i64 (turnP a b k).1, .int .i64 (turnP a b k).2] ∧ Blk wr (w.heap.size + 1) 57 #[.int .i64 0, .int .i64 0]) (fun i _ => 4 - (intOf i).toNat)
  case atStart => exact ⟨0, by omega, rfl, hb1, k0, k1⟩
  case round =>
    obtain ⟨k, hk, rfl, hbb, q0, q1⟩ := hrel
    have htb := turnP_bd a b k ha hb
    have c0 := q0.cell
    have c1 := q1.cell
    have f0 := q0.frozen
    have f1 := q1.frozen
    obtain ⟨u, hu⟩ : ∃ u, u = (turnP a b k).1 := ⟨_, rfl⟩
    obtain ⟨v, hv⟩ : ∃ v, v = (turnP a b k).2 := ⟨_, rfl⟩
    rw [← hu, ← hv] at q0 c0 htb
    have HU := hide hu; clear hu
    have HVV := hide hv; clear hv
    by_cases hlt : (k : Int) < n % 4
    · go_wp2
      have q0' := set2 wr w.heap.size 57 _ _ (.int .i64 (-v)) (.int .i64 u) q0
      go_roundw
      case rel =>
        refine ⟨k + 1, by omega, by go_num, below_set (below_set hbb (Nat.le_refl _) _) (Nat.le_refl _) _, ?_, ?_⟩
        · simp only [turnP, ← HU.out, ← HVV.out]; exact q0'
        · have n1 : w.heap.size + 1 ≠ w.heap.size := by omega
          exact (q1.far (p := ⟨w.heap.size, 0, none⟩) n1 _).far (p := ⟨w.heap.size, 1, none⟩) n1 _
      case measure => simp [intOf]; omega
    · have hke : (n % 4).toNat = k := by omega
      have HK := hide hke; clear hke
      go_wp2
      have q1' := set2 wr (w.heap.size + 1) 57 _ _ (.int .i64 u) (.int .i64 v) q1
      have c2 := q1'.cell
      clear c0 c1
      refine bodyPost_ret (v := .agg #[.int .i64 u, .int .i64 v]) (by simp [results, Tryd.results99, go_sem, c2]) rfl ?_
      exact ⟨by rw [HK.out, ← HU.out, ← HVV.out], below_set (below_set hbb (by omega) _) (by omega) _⟩

set_option maxHeartbeats 1000000 in
theorem rAt_q0 (x y z : Int) (w : World) (h1 : -32768 ≤ x ∧ x ≤ 32768) (h2 : -32768 ≤ y ∧ y ≤ 32768) (h3 : -32768 ≤ z ∧ z ≤ 32768) :
    Calls Tryd.prog 82 #[.int .i64 x, .int .i64 y, .int .i64 z, .int .i64 0] w fun e w' => e = .returned (.agg #[.int .i64 (atRe 0 x y z), .int .i64 (atIm 0 x y z)]) ∧ Below w.heap.size w w' := by
  go_enter Tryd.func82, Tryd.ntmps82
  go_wp2_with fail
  obtain ⟨w1, e1, hb1, hz1, k0⟩ := box1 w #[.int .i64 0, .int .i64 0] 57
  rw [← e1]; clear e1
  refine (turn_any y 0 _ w1 (by omega) (by omega) (by omega)).mono ?_
  rintro e w2 ⟨rfl, hb2⟩
  have hb3 := below_step hb1 hb2 hb1.size
  have k1 := k0.below hb2 k0.lt
  clear k0 hb1 hb2
  simp only [turnP, Int.reduceMod, Int.reduceToNat]
  go_wp2_with fail
  refine (turn_any z 0 _ w2 (by omega) (by omega) (by omega)).mono ?_
  rintro e w3 ⟨rfl, hb4⟩
  have hb5 := below_step hb3 hb4 hb3.size
  have k2 := k1.below hb4 k1.lt
  clear k1 hb3 hb4
  simp only [turnP, Int.reduceMod, Int.reduceToNat]
  go_wp2_with fail
  refine (plus_any _ _ _ _ w3 (by omega) (by omega)).mono ?_
  rintro e w4 ⟨rfl, hb6⟩
  have hb7 := below_step hb5 hb6 hb5.size
  have k3 := k2.below hb6 k2.lt
  clear k2 hb5 hb6
  go_wp2_with fail
  refine (plus_any _ _ _ _ w4 (by omega) (by omega)).mono ?_
  rintro e w5 ⟨rfl, hb8⟩
  have hb9 := below_step hb7 hb8 hb7.size
  have k4 := k3.below hb8 k3.lt
  clear k3 hb7 hb8
  have c4 := k4.cell
  have f4 := k4.frozen
  go_wp2
  refine bodyPost_ret (v := .agg #[.int .i64 (atRe 0 x y z), .int .i64 (atIm 0 x y z)]) ?_ rfl ?_
  · simp [results, Tryd.results82, go_sem, c4, atRe, atIm, pRe, pIm] <;> omega
  · exact ⟨rfl, below_set (below_set hb9 (Nat.le_refl _) _) (Nat.le_refl _) _⟩
set_option maxHeartbeats 1000000 in
theorem rAt_q1 (x y z : Int) (w : World) (h1 : -32768 ≤ x ∧ x ≤ 32768) (h2 : -32768 ≤ y ∧ y ≤ 32768) (h3 : -32768 ≤ z ∧ z ≤ 32768) :
    Calls Tryd.prog 82 #[.int .i64 x, .int .i64 y, .int .i64 z, .int .i64 1] w fun e w' => e = .returned (.agg #[.int .i64 (atRe 1 x y z), .int .i64 (atIm 1 x y z)]) ∧ Below w.heap.size w w' := by
  go_enter Tryd.func82, Tryd.ntmps82
  go_wp2_with fail
  obtain ⟨w1, e1, hb1, hz1, k0⟩ := box1 w #[.int .i64 0, .int .i64 0] 57
  rw [← e1]; clear e1
  refine (turn_any y 0 _ w1 (by omega) (by omega) (by omega)).mono ?_
  rintro e w2 ⟨rfl, hb2⟩
  have hb3 := below_step hb1 hb2 hb1.size
  have k1 := k0.below hb2 k0.lt
  clear k0 hb1 hb2
  simp only [turnP, Int.reduceMod, Int.reduceToNat, Int.neg_zero]
  go_wp2_with fail
  refine (turn_any z 0 _ w2 (by omega) (by omega) (by omega)).mono ?_
  rintro e w3 ⟨rfl, hb4⟩
  have hb5 := below_step hb3 hb4 hb3.size
  have k2 := k1.below hb4 k1.lt
  clear k1 hb3 hb4
  simp only [turnP, Int.reduceMod, Int.reduceToNat, Int.neg_zero]
  go_wp2_with fail
  refine (plus_any _ _ _ _ w3 (by omega) (by omega)).mono ?_
  rintro e w4 ⟨rfl, hb6⟩
  have hb7 := below_step hb5 hb6 hb5.size
  have k3 := k2.below hb6 k2.lt
  clear k2 hb5 hb6
  go_wp2_with fail
  refine (plus_any _ _ _ _ w4 (by omega) (by omega)).mono ?_
  rintro e w5 ⟨rfl, hb8⟩
  have hb9 := below_step hb7 hb8 hb7.size
  have k4 := k3.below hb8 k3.lt
  clear k3 hb7 hb8
  have c4 := k4.cell
  have f4 := k4.frozen
  go_wp2
  refine bodyPost_ret (v := .agg #[.int .i64 (atRe 1 x y z), .int .i64 (atIm 1 x y z)]) ?_ rfl ?_
  · simp [results, Tryd.results82, go_sem, c4, atRe, atIm, pRe, pIm] <;> omega
  · exact ⟨rfl, below_set (below_set hb9 (Nat.le_refl _) _) (Nat.le_refl _) _⟩
set_option maxHeartbeats 1000000 in
theorem rAt_q2 (x y z : Int) (w : World) (h1 : -32768 ≤ x ∧ x ≤ 32768) (h2 : -32768 ≤ y ∧ y ≤ 32768) (h3 : -32768 ≤ z ∧ z ≤ 32768) :
    Calls Tryd.prog 82 #[.int .i64 x, .int .i64 y, .int .i64 z, .int .i64 2] w fun e w' => e = .returned (.agg #[.int .i64 (atRe 2 x y z), .int .i64 (atIm 2 x y z)]) ∧ Below w.heap.size w w' := by
  go_enter Tryd.func82, Tryd.ntmps82
  go_wp2_with fail
  obtain ⟨w1, e1, hb1, hz1, k0⟩ := box1 w #[.int .i64 0, .int .i64 0] 57
  rw [← e1]; clear e1
  refine (turn_any y 0 _ w1 (by omega) (by omega) (by omega)).mono ?_
  rintro e w2 ⟨rfl, hb2⟩
  have hb3 := below_step hb1 hb2 hb1.size
  have k1 := k0.below hb2 k0.lt
  clear k0 hb1 hb2
  simp only [turnP, Int.reduceMod, Int.reduceToNat, Int.neg_zero]
  go_wp2_with fail
  refine (turn_any z 0 _ w2 (by omega) (by omega) (by omega)).mono ?_
  rintro e w3 ⟨rfl, hb4⟩
  have hb5 := below_step hb3 hb4 hb3.size
  have k2 := k1.below hb4 k1.lt
  clear k1 hb3 hb4
  simp only [turnP, Int.reduceMod, Int.reduceToNat]
  go_wp2_with fail
  refine (plus_any _ _ _ _ w3 (by omega) (by omega)).mono ?_
  rintro e w4 ⟨rfl, hb6⟩
  have hb7 := below_step hb5 hb6 hb5.size
  have k3 := k2.below hb6 k2.lt
  clear k2 hb5 hb6
  go_wp2_with fail
  refine (plus_any _ _ _ _ w4 (by omega) (by omega)).mono ?_
  rintro e w5 ⟨rfl, hb8⟩
  have hb9 := below_step hb7 hb8 hb7.size
  have k4 := k3.below hb8 k3.lt
  clear k3 hb7 hb8
  have c4 := k4.cell
  have f4 := k4.frozen
  go_wp2
  refine bodyPost_ret (v := .agg #[.int .i64 (atRe 2 x y z), .int .i64 (atIm 2 x y z)]) ?_ rfl ?_
  · simp [results, Tryd.results82, go_sem, c4, atRe, atIm, pRe, pIm] <;> omega
  · exact ⟨rfl, below_set (below_set hb9 (Nat.le_refl _) _) (Nat.le_refl _) _⟩
set_option maxHeartbeats 1000000 in
theorem rAt_q3 (x y z : Int) (w : World) (h1 : -32768 ≤ x ∧ x ≤ 32768) (h2 : -32768 ≤ y ∧ y ≤ 32768) (h3 : -32768 ≤ z ∧ z ≤ 32768) :
    Calls Tryd.prog 82 #[.int .i64 x, .int .i64 y, .int .i64 z, .int .i64 3] w fun e w' => e = .returned (.agg #[.int .i64 (atRe 3 x y z), .int .i64 (atIm 3 x y z)]) ∧ Below w.heap.size w w' := by
  go_enter Tryd.func82, Tryd.ntmps82
  go_wp2_with fail
  obtain ⟨w1, e1, hb1, hz1, k0⟩ := box1 w #[.int .i64 0, .int .i64 0] 57
  rw [← e1]; clear e1
  refine (turn_any y 0 _ w1 (by omega) (by omega) (by omega)).mono ?_
  rintro e w2 ⟨rfl, hb2⟩
  have hb3 := below_step hb1 hb2 hb1.size
  have k1 := k0.below hb2 k0.lt
  clear k0 hb1 hb2
  simp only [turnP, Int.reduceMod, Int.reduceToNat, Int.neg_zero]
  go_wp2_with fail
  refine (turn_any z 0 _ w2 (by omega) (by omega) (by omega)).mono ?_
  rintro e w3 ⟨rfl, hb4⟩
  have hb5 := below_step hb3 hb4 hb3.size
  have k2 := k1.below hb4 k1.lt
  clear k1 hb3 hb4
  simp only [turnP, Int.reduceMod, Int.reduceToNat, Int.neg_zero]
  go_wp2_with fail
  refine (plus_any _ _ _ _ w3 (by omega) (by omega)).mono ?_
  rintro e w4 ⟨rfl, hb6⟩
  have hb7 := below_step hb5 hb6 hb5.size
  have k3 := k2.below hb6 k2.lt
  clear k2 hb5 hb6
  go_wp2_with fail
  refine (plus_any _ _ _ _ w4 (by omega) (by omega)).mono ?_
  rintro e w5 ⟨rfl, hb8⟩
  have hb9 := below_step hb7 hb8 hb7.size
  have k4 := k3.below hb8 k3.lt
  clear k3 hb7 hb8
  have c4 := k4.cell
  have f4 := k4.frozen
  go_wp2
  refine bodyPost_ret (v := .agg #[.int .i64 (atRe 3 x y z), .int .i64 (atIm 3 x y z)]) ?_ rfl ?_
  · simp [results, Tryd.results82, go_sem, c4, atRe, atIm, pRe, pIm] <;> omega
  · exact ⟨rfl, below_set (below_set hb9 (Nat.le_refl _) _) (Nat.le_refl _) _⟩
theorem rAt_any (q : Int) (hq : 0 ≤ q ∧ q ≤ 3) (x y z : Int) (w : World) (h1 : -32768 ≤ x ∧ x ≤ 32768) (h2 : -32768 ≤ y ∧ y ≤ 32768) (h3 : -32768 ≤ z ∧ z ≤ 32768) :
    Calls Tryd.prog 82 #[.int .i64 x, .int .i64 y, .int .i64 z, .int .i64 q] w fun e w' => e = .returned (.agg #[.int .i64 (atRe q.toNat x y z), .int .i64 (atIm q.toNat x y z)]) ∧ Below w.heap.size w w' := by
  have : q = 0 ∨ q = 1 ∨ q = 2 ∨ q = 3 := by omega
  rcases this with rfl | rfl | rfl | rfl
  · exact rAt_q0 x y z w h1 h2 h3
  · exact rAt_q1 x y z w h1 h2 h3
  · exact rAt_q2 x y z w h1 h2 h3
  · exact rAt_q3 x y z w h1 h2 h3
end Go.Proofs.YtlaaajkehjoffaaDoor
