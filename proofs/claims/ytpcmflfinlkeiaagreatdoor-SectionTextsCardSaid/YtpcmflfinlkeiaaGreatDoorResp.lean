/- The contract of Response. -/
import Derived.Test.YtpcmflfinlkeiaaGreatDoorAt
import Derived.Test.YtpcmflfinlkeiaaGreatDoorBaseB
namespace Go.Proofs.YtpcmflfinlkeiaaGreatDoor
open Go.RowKit Go.Shelf
set_option maxRecDepth 100000

/-- The error of Response ahead of the pole. -/
def respErr (s : Sec) (q : Int) : Int := fnz [s.err, rng q 0 3]

set_option maxHeartbeats 1000000 in
theorem Response_bad (s : Sec) (q : Int) (w : World) (he : (respErr s q != 0) = true) :
    Calls Tryz.prog 31 #[.agg #[.int .i64 s.b0, .int .i64 s.b1, .int .i64 s.b2, .int .i64 s.a1, .int .i64 s.a2, .int .i64 s.sh], .int .i64 q] w fun e w' => e = .returned (.tuple #[.agg #[.int .i64 0, .int .i64 0, .int .i64 0, .int .i64 0], .int .i64 (respErr s q)]) ∧ Below w.heap.size w w' := by
  have HE := hide he; clear he
  go_enter Tryz.func31, Tryz.ntmps31
  go_wp2_with fail
  obtain ⟨w1, e1, hb1, hz1, k0, k1⟩ := box2 w #[.int .i64 s.b0, .int .i64 s.b1, .int .i64 s.b2, .int .i64 s.a1, .int .i64 s.a2, .int .i64 s.sh] #[.int .i64 0, .int .i64 0, .int .i64 0, .int .i64 0] 53 68
  rw [← e1]; clear e1
  refine (checkSection_any s _).mono ?_
  rintro e w2 ⟨rfl, hb2⟩
  have hb3 := below_step hb1 hb2 hb1.size
  have ht : (fnz [s.err, rng q 0 3] != 0) = true := HE.out
  have k1' := k1.below hb2 (by omega)
  have c1 := k1'.cell
  have f1 := k1'.frozen
  have l1 := k1'.lt
  clear k0 k1 hb1
  go_wp2_with (first | (go_at_call 65; refine (within_any _ _ _ _).mono ?_; rintro e w' ⟨rfl, rfl⟩) | (go_at_call 38; (first | (with_reducible (refine (first_any _ _ _ _ _ _ (reads2 _ _ _ _) (by omega)).mono ?_)) | (with_reducible (refine (first_any _ _ _ _ _ _ (Reads.drew (reads2 _ _ _ _)) (by omega)).mono ?_))); rintro e W' ⟨rfl, rfl⟩))
  obtain ⟨w7, e7, k7, z7, o7, b7, _, _, rr7⟩ := set4 _ (w.heap.size + 1) 68 _ _ _ _ (.int .i64 0) (.int .i64 0) (.int .i64 0) (.int .i64 0) k1'
  rw [← e7]; clear e7
  have c7 := (k7.alloc (.cells #[.int .i64 s.err, .int .i64 (rng q 0 3)] 25)).cell
  clear c1 f1
  refine bodyPost_ret (v := .tuple #[.agg #[.int .i64 0, .int .i64 0, .int .i64 0, .int .i64 0], .int .i64 (respErr s q)]) (by simp [results, Tryz.results31, go_sem, c7, respErr]) rfl ?_
  exact ⟨rfl, ((hb3.trans (b7 _ (by omega)))).alloc (by have := hb3.size; omega) _⟩

/-- The error of Response behind its checks, and what it returns. -/
def Sec.nRe (s : Sec) (q : Nat) : Int := atRe q s.b0 s.b1 s.b2
def Sec.nIm (s : Sec) (q : Nat) : Int := atIm q s.b0 s.b1 s.b2
def Sec.dRe (s : Sec) (q : Nat) : Int := atRe q s.unit s.a1 s.a2
def Sec.dIm (s : Sec) (q : Nat) : Int := atIm q s.unit s.a1 s.a2

set_option maxHeartbeats 4000000 in
theorem Response_ok (s : Sec) (q : Int) (w : World) (hP : Pow w) (he : respErr s q = 0) :
    Calls Tryz.prog 31 #[.agg #[.int .i64 s.b0, .int .i64 s.b1, .int .i64 s.b2, .int .i64 s.a1, .int .i64 s.a2, .int .i64 s.sh], .int .i64 q] w fun e w' => e = .returned (.tuple (if s.dRe q.toNat = 0 ∧ s.dIm q.toNat = 0 then #[.agg #[.int .i64 0, .int .i64 0, .int .i64 0, .int .i64 0], .int .i64 17] else #[.agg #[.int .i64 (s.nRe q.toNat), .int .i64 (s.nIm q.toNat), .int .i64 (s.dRe q.toNat), .int .i64 (s.dIm q.toNat)], .int .i64 0])) ∧ Below w.heap.size w w' := by
  have hs := Sec.err_ok (fnz2_zero he).1
  obtain ⟨V, hV⟩ : ∃ V, V = Value.tuple (if s.dRe q.toNat = 0 ∧ s.dIm q.toNat = 0 then #[.agg #[.int .i64 0, .int .i64 0, .int .i64 0, .int .i64 0], .int .i64 17] else #[.agg #[.int .i64 (s.nRe q.toNat), .int .i64 (s.nIm q.toNat), .int .i64 (s.dRe q.toNat), .int .i64 (s.dIm q.toNat)], .int .i64 0]) := ⟨_, rfl⟩
  rw [← hV]
  have HV := hide hV; clear hV
  have hq : 0 ≤ q ∧ q ≤ 3 := by
    have := (fnz2_zero he).2
    rw [rng_eq] at this
    split at this
    · exact inB_iff.1 (by assumption)
    · omega
  have hu := unit_bd hs
  have HE := hide he; clear he
  go_enter Tryz.func31, Tryz.ntmps31
  go_wp2_with fail
  obtain ⟨w1, e1, hb1, hz1, k0, k1⟩ := box2 w #[.int .i64 s.b0, .int .i64 s.b1, .int .i64 s.b2, .int .i64 s.a1, .int .i64 s.a2, .int .i64 s.sh] #[.int .i64 0, .int .i64 0, .int .i64 0, .int .i64 0] 53 68
  rw [← e1]; clear e1
  refine (checkSection_any s _).mono ?_
  rintro e w2 ⟨rfl, hb2⟩
  have hb3 := below_step hb1 hb2 hb1.size
  have ht : (fnz [s.err, rng q 0 3] != 0) = false := by rw [show fnz [s.err, rng q 0 3] = 0 from HE.out]; rfl
  have k0' := k0.below hb2 (by omega)
  have k1' := k1.below hb2 (by omega)
  clear k0 k1 hb1
  go_wp2_with (first | (go_at_call 65; refine (within_any _ _ _ _).mono ?_; rintro e w' ⟨rfl, rfl⟩) | (go_at_call 38; (first | (with_reducible (refine (first_any _ _ _ _ _ _ (reads2 _ _ _ _) (by omega)).mono ?_)) | (with_reducible (refine (first_any _ _ _ _ _ _ (Reads.drew (reads2 _ _ _ _)) (by omega)).mono ?_))); rintro e W' ⟨rfl, rfl⟩))
  obtain ⟨w4, e4, hb4, hz4, k4⟩ := box1 w2 #[.int .i64 s.err, .int .i64 (rng q 0 3)] 25
  rw [← e4]; clear e4 k4
  have hP4 : ∀ W, Below w4.heap.size w4 W → Pow W := fun W h => ((hP.below hb3 hP.1).below hb4 (by have := hP.1; have := hb3.size; omega)).below h (by have := hP.1; have := hb3.size; omega)
  have c0 : ∀ i W, Below w4.heap.size w4 W → W.cell? ⟨w.heap.size, i, none⟩ = (#[.int .i64 s.b0, .int .i64 s.b1, .int .i64 s.b2, .int .i64 s.a1, .int .i64 s.a2, .int .i64 s.sh] : Array Value)[i]? := fun i W h => ((k0'.below hb4 (by have := hb3.size; have := k0'.lt; omega)).below h (by have := k0'.lt; omega)).cell i
  have v0 : -32768 ≤ s.b0 ∧ s.b0 ≤ 32768 := by have := hs.b0l; have := hs.b0h; omega
  have v1 : -32768 ≤ s.b1 ∧ s.b1 ≤ 32768 := by have := hs.b1l; have := hs.b1h; omega
  have v2 : -32768 ≤ s.b2 ∧ s.b2 ≤ 32768 := by have := hs.b2l; have := hs.b2h; omega
  have v3 : -32768 ≤ s.a1 ∧ s.a1 ≤ 32768 := by have := hs.a1l; have := hs.a1h; omega
  have v4 : -32768 ≤ s.a2 ∧ s.a2 ≤ 32768 := by have := hs.a2l; have := hs.a2h; omega
  have vu : -32768 ≤ s.unit ∧ s.unit ≤ 32768 := by omega
  have at1 : ∀ W A c x y z, Below w4.heap.size w4 W → Reads W W.heap.size 1 A 3 (ints [x, y, z]) → (-32768 ≤ x ∧ x ≤ 32768) → (-32768 ≤ y ∧ y ≤ 32768) → (-32768 ≤ z ∧ z ≤ 32768) → Calls Tryz.prog 71 #[.int .i64 q, .slice A 3 c] W fun e w' => e = .returned (.agg #[.int .i64 (atRe q.toNat x y z), .int .i64 (atIm q.toNat x y z)]) ∧ Below W.heap.size W w' :=
    fun W A c x y z hW hR q1 q2 q3 => at_any q hq A c _ x y z W (hP4 _ hW) hR (Nat.le_refl _) q1 q2 q3
  clear hP hP4
  have hA1 := alloc_cel
  have hA2 := alloc_fro
  go_region_held3 (fun W => Below w4.heap.size w4 W) (first | exact (Below.refl _ _).drew | (with_reducible assumption) | exact below_new ‹Below w4.heap.size w4 _› (Nat.le_refl _) _ | (refine below_set (below_set (below_set (below_set (by assumption) (by omega) _) (by omega) _) (by omega) _) (by omega) _)) (first | (go_at_call 63; refine (unit_any s _ hs).mono ?_; rintro e W' ⟨rfl, hbW⟩; have hS := below_step ‹Below w4.heap.size w4 _› hbW (Below.size ‹Below w4.heap.size w4 _›); have hF := below_fro hbW; have hC := below_cel hbW; have hL := below_lt hbW; have hT := below_le hbW; have hK := below_blk hbW; have hz := Below.size hS; have hz1' := Below.size hbW; (try simp only [World.size_alloc] at hz1'); (try have hq3 := Nat.lt_of_lt_of_le hq3 hz1'); (try have hq3 := Nat.lt_of_lt_of_le hq3 (Nat.le_of_succ_le hz1')); (try have hq3 := Nat.lt_of_lt_of_le hq1 hz1'); (try have hq3 := Nat.lt_of_lt_of_le hq1 (Nat.le_of_succ_le hz1')); (try have hq7 := Nat.lt_of_succ_lt hq3); (try have hq8 := Nat.le_of_lt hq7); (try have hq4 := Nat.le_of_lt hq3); (try have hq1 := Nat.lt_of_succ_le hz1'); (try have hq2 := Nat.lt_of_succ_lt hq1); (try have hq5 := Nat.le_of_lt hq1); (try have hq6 := Nat.le_of_lt hq2)) | (go_at_call 71; (first | (with_reducible (refine (at1 _ _ _ _ _ _ (by assumption) (Reads.drew (reads3' _ _ _ _ _ _ (by simp))) (by assumption) (by assumption) (by assumption)).mono ?_)) | (with_reducible (refine (at1 _ _ _ _ _ _ (by assumption) (reads3' _ _ _ _ _ _ (by simp)) (by assumption) (by assumption) (by assumption)).mono ?_)) | (with_reducible (refine (at1 _ _ _ _ _ _ (by assumption) (Reads.drew (reads3x _ _ _ _ _ _ (by simp) _)) (by assumption) (by assumption) (by assumption)).mono ?_)) | (with_reducible (refine (at1 _ _ _ _ _ _ (by assumption) (reads3x _ _ _ _ _ _ (by simp) _) (by assumption) (by assumption) (by assumption)).mono ?_))); rintro e W' ⟨rfl, hbW⟩; have hS := below_step ‹Below w4.heap.size w4 _› hbW (Below.size ‹Below w4.heap.size w4 _›); have hF := below_fro hbW; have hC := below_cel hbW; have hL := below_lt hbW; have hT := below_le hbW; have hK := below_blk hbW; have hz := Below.size hS; have hz1' := Below.size hbW; (try simp only [World.size_alloc, World.size_drew] at hz1'); (try have hq3 := Nat.lt_of_lt_of_le hq3 hz1'); (try have hq3 := Nat.lt_of_lt_of_le hq3 (Nat.le_of_succ_le hz1')); (try have hq3 := Nat.lt_of_lt_of_le hq1 hz1'); (try have hq3 := Nat.lt_of_lt_of_le hq1 (Nat.le_of_succ_le hz1')); (try have hq7 := Nat.lt_of_succ_lt hq3); (try have hq8 := Nat.le_of_lt hq7); (try have hq4 := Nat.le_of_lt hq3); (try have hq1 := Nat.lt_of_succ_le hz1'); (try have hq2 := Nat.lt_of_succ_lt hq1); (try have hq5 := Nat.le_of_lt hq1); (try have hq6 := Nat.le_of_lt hq2)))
  all_goals (first
    | (with_reducible refine fin1 (v := w4) (t := 68) (by with_reducible assumption) (fun X hX kX => ?_))
    | (with_reducible refine fin4 (B := w4.heap.size) (v := w4) (c0 := .int .i64 0) (c1 := .int .i64 0) (c2 := .int .i64 0) (c3 := .int .i64 0) 68 (by with_reducible assumption) (by omega) (by (repeat (first | exact Blk.newAt (by simp) | refine Blk.alloc ?_ _ | refine Blk.drew ?_ | refine (by with_reducible assumption : ∀ g t cs, Blk _ g t cs → Blk _ g t cs) _ _ _ ?_))) (fun X hX kX => ?_)))
  all_goals (
    have kR : Blk X (w.heap.size + 1) 68 #[.int .i64 0, .int .i64 0, .int .i64 0, .int .i64 0] := (k1'.below hb4 k1'.lt).below hX (Nat.lt_of_lt_of_le k1'.lt hb4.size)
    have cX := kX.cell
    have cR := kR.cell
    have fR := kR.frozen
    have bX : Below w.heap.size w X := below_step (below_step hb3 hb4 hb3.size) hX (Nat.le_trans hb3.size hb4.size)
    clear c0)
  all_goals go_wp2
  all_goals (
    refine fin4 (B := w.heap.size) (v := w) 68 bX (by omega) kR (fun Y hY kY => ?_)
    have cY := kY.cell
    clear cX cR fR kX kR
    first
      | (refine bodyPost_ret (v := .tuple #[.agg #[.int .i64 0, .int .i64 0, .int .i64 0, .int .i64 0], .int .i64 17]) ?_ rfl ?_; focus (simp [results, Tryz.results31, go_sem, cY]; done))
      | (refine bodyPost_ret (v := .tuple #[.agg #[.int .i64 (atRe q.toNat s.b0 s.b1 s.b2), .int .i64 (atIm q.toNat s.b0 s.b1 s.b2), .int .i64 0, .int .i64 (atIm q.toNat s.unit s.a1 s.a2)], .int .i64 0]) ?_ rfl ?_; focus (simp [results, Tryz.results31, go_sem, cY]; done))
      | (refine bodyPost_ret (v := .tuple #[.agg #[.int .i64 (atRe q.toNat s.b0 s.b1 s.b2), .int .i64 (atIm q.toNat s.b0 s.b1 s.b2), .int .i64 (atRe q.toNat s.unit s.a1 s.a2), .int .i64 (atIm q.toNat s.unit s.a1 s.a2)], .int .i64 0]) ?_ rfl ?_; focus (simp [results, Tryz.results31, go_sem, cY]; done))
    exact ⟨by rw [HV.out]; simp [Sec.dRe, Sec.dIm, Sec.nRe, Sec.nIm, *], hY⟩)
end Go.Proofs.YtpcmflfinlkeiaaGreatDoor
