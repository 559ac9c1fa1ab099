/- Number of the program. -/
import Derived.Test.YtnndaipnfniciaaGreatDoorNSmall
import Derived.Test.YtnndaipnfniciaaGreatDoorBaseO
import Derived.Test.YtnndaipnfniciaaGreatDoorPlainA
import Derived.Test.YtnndaipnfniciaaGreatDoorBaseC
import Derived.Laws.Cover3
import Derived.Laws.FloatArith
namespace Go.Proofs.YtnndaipnfniciaaGreatDoor
open Go.RowKit Go.Shelf
set_option maxRecDepth 100000
theorem reads2G (W : World) (a b : G) (t : TypeId) (n : Nat) (hn : n = W.heap.size) : Reads (W.alloc (.cells #[.int .i64 a.re, .int .i64 a.im, .int .i64 b.re, .int .i64 b.im] t)) (W.alloc (.cells #[.int .i64 a.re, .int .i64 a.im, .int .i64 b.re, .int .i64 b.im] t)).heap.size 2 (some ⟨n, 0, none⟩) 2 (gs [a, b]) :=
  blkG (l := [a, b]) (Blk.newAt hn) rfl
/-- The error of Number ahead of the division. -/
def numErr (p : Pr) : Int := fnz [smErr [p.n, p.d], if p.d = .zero then 6 else 0]
theorem numNZ {p : Pr} (h : ¬ p.d = .zero) : ∀ W, (binOp .eql 23 (.agg #[.int .i64 p.d.re, .int .i64 p.d.im]) (.agg #[.int .i64 0, .int .i64 0])).run Tryz.prog W = .ok (.bool false) W := fun W => by
  have := eqG p.d .zero W
  rwa [decide_eq_false h] at this
set_option maxHeartbeats 4000000 in
theorem Number_bad (p : Pr) (w : World) (hC : Con w) (he : ¬ numErr p = 0) :
    Calls Tryz.prog 15 #[.agg #[.int .i64 p.n.re, .int .i64 p.n.im, .int .i64 p.d.re, .int .i64 p.d.im]] w fun e w' => e = .returned (.tuple #[.complex .f64 0 0, .int .i64 (numErr p)]) ∧ Below w.heap.size w w' := by
  by_cases hz : p.d = .zero
  · have hn : numErr p = fnz [smErr [p.n, p.d], 6] := by unfold numErr; rw [if_pos hz]
    have t1 : (fnz [smErr [p.n, p.d], 6] != 0) = true := by rw [← hn]; simpa using he
    have hq : ∀ W, (binOp .eql 23 (.agg #[.int .i64 p.d.re, .int .i64 p.d.im]) (.agg #[.int .i64 0, .int .i64 0])).run Tryz.prog W = .ok (.bool true) W := fun W => by
      have := eqG p.d .zero W
      rwa [decide_eq_true hz] at this
    have HN := hide hn
    clear hn he hz
    go_enter Tryz.func15, Tryz.ntmps15
    go_upto_region 1 with (fail)
    obtain ⟨w1, e1, hb1, hz1, k0⟩ := box1 w #[.int .i64 p.n.re, .int .i64 p.n.im, .int .i64 p.d.re, .int .i64 p.d.im] 32
    rw [← e1]; clear e1
    have hcn := hC.carry hb1
    have n0 : ∀ W, Below w1.heap.size w1 W → W.cell? ⟨0, 0, none⟩ = some (.int .i64 0) := fun W h => (hcn.carry h).n0
    have n1 : ∀ W, Below w1.heap.size w1 W → W.cell? ⟨0, 1, none⟩ = some (.int .i64 0) := fun W h => (hcn.carry h).n1
    have c0 : ∀ i W, Below w1.heap.size w1 W → W.cell? ⟨w.heap.size, i, none⟩ = (#[.int .i64 p.n.re, .int .i64 p.n.im, .int .i64 p.d.re, .int .i64 p.d.im] : Array Value)[i]? := fun i W h => (carryK k0 h).cell i
    go_region_held3 (fun W => Below w1.heap.size w1 W) (first | exact (Below.refl _ _).drew | (with_reducible assumption) | exact below_new ‹Below w1.heap.size w1 _› (Nat.le_refl _) _ | (refine below_set (below_set (below_set (below_set (by assumption) (by omega) _) (by omega) _) (by omega) _) (by omega) _)) (first | (go_at_call 83; (first | (with_reducible (refine (checkSmall_any [p.n, p.d] _ 2 _ _ (reads2G _ _ _ _ _ (by simp)) (by omega)).mono ?_)) | (with_reducible (refine (checkSmall_any [p.n, p.d] _ 2 _ _ (Reads.drew (reads2G _ _ _ _ _ (by simp))) (by omega)).mono ?_))); rintro e W' ⟨rfl, hbW⟩; have hS := below_step ‹Below w1.heap.size w1 _› hbW (Below.size ‹Below w1.heap.size w1 _›)) | (go_at_call 84; refine (when_any _ _ _).mono ?_; rintro e W' ⟨rfl, rfl⟩) | (go_at_call 82; (first | (with_reducible (refine (first_any _ _ _ _ _ _ (reads2 _ _ _ _) (by omega)).mono ?_)) | (with_reducible (refine (first_any _ _ _ _ _ _ (Reads.drew (reads2 _ _ _ _)) (by omega)).mono ?_))); rintro e W' ⟨rfl, rfl⟩))
    have hB3 := ‹Below w1.heap.size w1 _›
    generalize World.alloc W' _ = w3 at hB3 ⊢
    clear n0 n1 c0 hS hbW
    have hbw3 := below_next hb1 hB3
    have k3 := carryK k0 hB3
    go_wp2_with fail
    go_ret2
    exact ⟨by rw [HN.out]; rfl, hbw3⟩
  · have hn : numErr p = fnz [smErr [p.n, p.d], 0] := by unfold numErr; rw [if_neg hz]
    have t1 : (fnz [smErr [p.n, p.d], 0] != 0) = true := by rw [← hn]; simpa using he
    have hq := numNZ hz
    have HN := hide hn
    clear hn he hz
    go_enter Tryz.func15, Tryz.ntmps15
    go_upto_region 1 with (fail)
    obtain ⟨w1, e1, hb1, hz1, k0⟩ := box1 w #[.int .i64 p.n.re, .int .i64 p.n.im, .int .i64 p.d.re, .int .i64 p.d.im] 32
    rw [← e1]; clear e1
    have hcn := hC.carry hb1
    have n0 : ∀ W, Below w1.heap.size w1 W → W.cell? ⟨0, 0, none⟩ = some (.int .i64 0) := fun W h => (hcn.carry h).n0
    have n1 : ∀ W, Below w1.heap.size w1 W → W.cell? ⟨0, 1, none⟩ = some (.int .i64 0) := fun W h => (hcn.carry h).n1
    have c0 : ∀ i W, Below w1.heap.size w1 W → W.cell? ⟨w.heap.size, i, none⟩ = (#[.int .i64 p.n.re, .int .i64 p.n.im, .int .i64 p.d.re, .int .i64 p.d.im] : Array Value)[i]? := fun i W h => (carryK k0 h).cell i
    go_region_held3 (fun W => Below w1.heap.size w1 W) (first | exact (Below.refl _ _).drew | (with_reducible assumption) | exact below_new ‹Below w1.heap.size w1 _› (Nat.le_refl _) _ | (refine below_set (below_set (below_set (below_set (by assumption) (by omega) _) (by omega) _) (by omega) _) (by omega) _)) (first | (go_at_call 83; (first | (with_reducible (refine (checkSmall_any [p.n, p.d] _ 2 _ _ (reads2G _ _ _ _ _ (by simp)) (by omega)).mono ?_)) | (with_reducible (refine (checkSmall_any [p.n, p.d] _ 2 _ _ (Reads.drew (reads2G _ _ _ _ _ (by simp))) (by omega)).mono ?_))); rintro e W' ⟨rfl, hbW⟩; have hS := below_step ‹Below w1.heap.size w1 _› hbW (Below.size ‹Below w1.heap.size w1 _›)) | (go_at_call 84; refine (when_any _ _ _).mono ?_; rintro e W' ⟨rfl, rfl⟩) | (go_at_call 82; (first | (with_reducible (refine (first_any _ _ _ _ _ _ (reads2 _ _ _ _) (by omega)).mono ?_)) | (with_reducible (refine (first_any _ _ _ _ _ _ (Reads.drew (reads2 _ _ _ _)) (by omega)).mono ?_))); rintro e W' ⟨rfl, rfl⟩))
    have hB3 := ‹Below w1.heap.size w1 _›
    generalize World.alloc W' _ = w3 at hB3 ⊢
    clear n0 n1 c0 hS hbW
    have hbw3 := below_next hb1 hB3
    have k3 := carryK k0 hB3
    go_wp2_with fail
    go_ret2
    exact ⟨by rw [HN.out]; rfl, hbw3⟩
/-- The number times the square of the denominator. -/
def Pr.up (p : Pr) : G := p.n.mul p.d.conj
theorem num_zero {p : Pr} (h : numErr p = 0) : p.n.nrm ≤ 60000 ∧ p.d.nrm ≤ 60000 ∧ ¬ p.d = .zero := by
  unfold numErr at h
  rw [fnz_zero] at h
  simp only [List.mem_cons, List.not_mem_nil, or_false, forall_eq_or_imp, forall_eq] at h
  obtain ⟨h1, h2⟩ := h
  have sm : ∀ z ∈ [p.n, p.d], z.nrm ≤ 60000 := by
    intro z hz
    unfold smErr at h1
    rw [fnz_zero] at h1
    have := h1 _ (List.mem_map_of_mem hz)
    unfold smE at this
    rw [fnz_zero] at this
    simp only [List.mem_cons, List.not_mem_nil, or_false, forall_eq_or_imp, forall_eq] at this
    have a1 := rng_zero.1 this.1
    have a2 := rng_zero.1 this.2
    unfold G.nrm; omega
  refine ⟨sm _ (by simp), sm _ (by simp), fun e => ?_⟩
  rw [if_pos e] at h2
  omega
theorem nconj_any (a b : G) (w : World) (hT : a.conj = b) (hin : a.nrm ≤ 60000) :
    Calls Tryz.prog 86 #[.agg #[.int .i64 a.re, .int .i64 a.im]] w fun e w' => e = .returned (.agg #[.int .i64 b.re, .int .i64 b.im]) ∧ Below w.heap.size w w' := by
  have := conjugate_any a w
  rw [wr_in (n := -a.im) (by unfold G.nrm at hin; omega)] at this
  subst hT
  exact this
theorem square_in2 (a : G) (S : Int) (w : World) (hS : a.sq = S) (h : 0 ≤ S ∧ S ≤ 9223372036854775807) :
    Calls Tryz.prog 87 #[.agg #[.int .i64 a.re, .int .i64 a.im]] w fun e w' => e = .returned (.int .i64 S) ∧ Below w.heap.size w w' := by
  have := square_any a w
  rw [hS, wr_in (n := S) (by omega)] at this
  exact this
theorem up_in {p : Pr} (h1 : p.n.nrm ≤ 60000) (h2 : p.d.nrm ≤ 60000) : p.up.nrm ≤ 3600000000 := by
  have := Nat.le_trans (G.nrm_mul p.n p.d.conj) (Nat.mul_le_mul h1 (show p.d.conj.nrm ≤ 60000 by unfold G.nrm G.conj at *; simp only; omega))
  exact this
theorem num_small {q : G} {S a b : Int} (h : q.nrm ≤ 3600000000) (hS : 0 < S) (h1 : q.re * 65536 = a * S) (h2 : q.im * 65536 = b * S) : (-300000000000000 ≤ a ∧ a ≤ 300000000000000) ∧ -300000000000000 ≤ b ∧ b ≤ 300000000000000 := by
  have key : ∀ x c : Int, x.natAbs ≤ 3600000000 → x * 65536 = c * S → -300000000000000 ≤ c ∧ c ≤ 300000000000000 := by
    intro x c hx he
    have e1 := Int.natAbs_mul c S
    have e2 : c.natAbs * 1 ≤ c.natAbs * S.natAbs := Nat.mul_le_mul_left _ (by omega)
    rw [← he] at e1
    omega
  unfold G.nrm at h
  exact ⟨key _ _ (by omega) h1, key _ _ (by omega) h2⟩
set_option maxHeartbeats 4000000 in
/-- The numbers of a quotient. -/
theorem Number_ok (p : Pr) (w : World) (hC : Con w) (he : numErr p = 0) (a b : Int) (hab : p.up.re * 65536 = a * p.d.sq ∧ p.up.im * 65536 = b * p.d.sq) (r i : Nat) (hr : floatBits .quo .f64 (floatOfInt .f64 a) 4679240012837945344 = some r) (hi : floatBits .quo .f64 (floatOfInt .f64 b) 4679240012837945344 = some i) :
    Calls Tryz.prog 15 #[.agg #[.int .i64 p.n.re, .int .i64 p.n.im, .int .i64 p.d.re, .int .i64 p.d.im]] w fun e w' => e = .returned (.tuple #[.complex .f64 r i, .int .i64 0]) ∧ Below w.heap.size w w' := by
  have t1 : (fnz [smErr [p.n, p.d], 0] != 0) = false := by have := he; unfold numErr at this; rw [if_neg (num_zero he).2.2] at this; rw [this]; rfl
  obtain ⟨hn1, hn2, hz⟩ := num_zero he
  have hq := numNZ hz
  have hup := up_in hn1 hn2
  have hsq := G.sq_pos hz
  have hsq2 := G.sq_le hn2
  have hc : p.d.conj.nrm ≤ 60000 := by unfold G.nrm G.conj at *; simp only; omega
  obtain ⟨c, hcj⟩ : ∃ c, p.d.conj = c := ⟨_, rfl⟩
  obtain ⟨q, hqq⟩ : ∃ q, p.up = q := ⟨_, rfl⟩
  obtain ⟨S, hS⟩ : ∃ S, p.d.sq = S := ⟨_, rfl⟩
  rw [hqq] at hup
  rw [hS] at hsq hsq2
  have HCJ := hide hcj
  have HQ : Hid (p.n.mul c = q) := by rw [← hcj]; exact hqq
  have HS := hide hS
  have HU : Hid (q.nrm ≤ 9223372036854775807) := Nat.le_trans hup (by decide)
  have HN2 := hide hn2
  have s1 : 0 < S := hsq
  have s2 : 0 ≤ S ∧ S ≤ 9223372036854775807 := by omega
  have HBQ := hide hup
  rw [hqq, hS] at hab
  clear hn1 hn2 hz hup hsq hsq2 hc hcj hqq hS he
  go_enter Tryz.func15, Tryz.ntmps15
  go_upto_region 1 with (fail)
  obtain ⟨w1, e1, hb1, hz1, k0⟩ := box1 w #[.int .i64 p.n.re, .int .i64 p.n.im, .int .i64 p.d.re, .int .i64 p.d.im] 32
  rw [← e1]; clear e1
  have hcn := hC.carry hb1
  have n0 : ∀ W, Below w1.heap.size w1 W → W.cell? ⟨0, 0, none⟩ = some (.int .i64 0) := fun W h => (hcn.carry h).n0
  have n1 : ∀ W, Below w1.heap.size w1 W → W.cell? ⟨0, 1, none⟩ = some (.int .i64 0) := fun W h => (hcn.carry h).n1
  have c0 : ∀ i W, Below w1.heap.size w1 W → W.cell? ⟨w.heap.size, i, none⟩ = (#[.int .i64 p.n.re, .int .i64 p.n.im, .int .i64 p.d.re, .int .i64 p.d.im] : Array Value)[i]? := fun i W h => (carryK k0 h).cell i
  go_region_held3 (fun W => Below w1.heap.size w1 W) (first | exact (Below.refl _ _).drew | (with_reducible assumption) | exact below_new ‹Below w1.heap.size w1 _› (Nat.le_refl _) _ | (refine below_set (below_set (below_set (below_set (by assumption) (by omega) _) (by omega) _) (by omega) _) (by omega) _)) (first | (go_at_call 83; (first | (with_reducible (refine (checkSmall_any [p.n, p.d] _ 2 _ _ (reads2G _ _ _ _ _ (by simp)) (by omega)).mono ?_)) | (with_reducible (refine (checkSmall_any [p.n, p.d] _ 2 _ _ (Reads.drew (reads2G _ _ _ _ _ (by simp))) (by omega)).mono ?_))); rintro e W' ⟨rfl, hbW⟩; have hS := below_step ‹Below w1.heap.size w1 _› hbW (Below.size ‹Below w1.heap.size w1 _›)) | (go_at_call 84; refine (when_any _ _ _).mono ?_; rintro e W' ⟨rfl, rfl⟩) | (go_at_call 82; (first | (with_reducible (refine (first_any _ _ _ _ _ _ (reads2 _ _ _ _) (by omega)).mono ?_)) | (with_reducible (refine (first_any _ _ _ _ _ _ (Reads.drew (reads2 _ _ _ _)) (by omega)).mono ?_))); rintro e W' ⟨rfl, rfl⟩))
  have hB3 := ‹Below w1.heap.size w1 _›
  generalize World.alloc W' _ = w3 at hB3 ⊢
  clear n0 n1 c0 hS hbW
  have hbw3 := below_next hb1 hB3
  have k3 := carryK k0 hB3
  clear hq
  go_upto_region 4 with (fail)
  refine wp_region_alloc1 9 (af := ?af1) (t1 := 23) (cs1 := #[.int .i64 0, .int .i64 0]) (by kernel_rfl) (by kernel_rfl) (by kernel_rfl) rfl ⟨rfl, rfl, fun _ _ => by kernel_rfl⟩ (by kernel_rfl) ?q1n ?q2n
  case q1n =>
    intro W0 hW0
    have c0 := over_blk (carryK (w' := W0) k3 (by repeat (first | with_reducible assumption | exact Below.refl _ _ | refine below_next (by with_reducible assumption) ?_))) (carryK (w' := W0) k3 (by repeat (first | with_reducible assumption | exact Below.refl _ _ | refine below_next (by with_reducible assumption) ?_))).lt
    simp only [List.take_succ_cons, List.take_zero]
    (repeat (first | go_big_quiet_step (first | (go_at_call 86; with_reducible exact over_call (Nat.le_refl _) (nconj_any p.d c _ HCJ.out HN2.out)) | (go_at_call 85; with_reducible exact over_call (Nat.le_refl _) (times_g p.n c q _ HQ.out HU.out)) | (go_at_call 87; with_reducible exact over_call (Nat.le_refl _) (square_in2 p.d S _ HS.out s2)))))
    refine wpQuiet_nil ?_
    rfl
  intro g Y hg hbY kN0
  simp only [List.drop_succ_cons, List.drop_zero, Act.put, List.setIfInBounds_toArray, List.set_cons_succ, List.set_cons_zero]
  have cN0 := kN0.cell
  have fN0 := kN0.frozen
  go_upto_region 5 with (fail)
  have kN : Blk _ g 23 #[.int .i64 q.re, .int .i64 q.im] := blk2 (u0 := .int .i64 q.re) (u1 := .int .i64 q.im) kN0
  have hbN := below2 (u0 := .int .i64 q.re) (u1 := .int .i64 q.im) hbY hg
  clear cN0 fN0
  generalize World.setCell _ _ _ = Z at kN hbN ⊢
  have cN := kN.cell
  obtain ⟨X, hX⟩ : ∃ X, q.re * 65536 = X := ⟨_, rfl⟩
  obtain ⟨Y2, hY⟩ : ∃ X, q.im * 65536 = X := ⟨_, rfl⟩
  have hxb : (-300000000000000 ≤ X ∧ X ≤ 300000000000000) ∧ -300000000000000 ≤ Y2 ∧ Y2 ≤ 300000000000000 := by have := HBQ.out; unfold G.nrm at this; omega
  have x1 : wrap64 (q.re * 65536) = X := by rw [hX]; unfold wrap64; omega
  have x2 : wrap64 (q.im * 65536) = Y2 := by rw [hY]; unfold wrap64; omega
  have x3 : IntKind.i64.wrap (q.re * 65536) = X := by rw [hX]; exact IntWalk.i64_in _ (by omega)
  have x4 : IntKind.i64.wrap (q.im * 65536) = Y2 := by rw [hY]; exact IntWalk.i64_in _ (by omega)
  have t4 : (S == 0) = false := by simp; omega
  have HX := hide hX
  have HY := hide hY
  clear hxb hX hY
  have m1 : X.tmod S = 0 := by rw [← HX.out, hab.1]; exact Int.mul_tmod_left a S
  have m2 : Y2.tmod S = 0 := by rw [← HY.out, hab.2]; exact Int.mul_tmod_left b S
  have q1 : X.tdiv S = a := by rw [← HX.out, hab.1]; exact Int.mul_tdiv_cancel a (by omega)
  have q2 : Y2.tdiv S = b := by rw [← HY.out, hab.2]; exact Int.mul_tdiv_cancel b (by omega)
  have b1 := num_small HBQ.out s1 hab.1 hab.2
  have d1 : wrap64 (X.tdiv S) = a := by rw [q1]; unfold wrap64; omega
  have d2 : wrap64 (Y2.tdiv S) = b := by rw [q2]; unfold wrap64; omega
  have t5 : (X.tmod S != 0) = false := by rw [m1]; rfl
  have t6 : (Y2.tmod S != 0) = false := by rw [m2]; rfl
  have fr : ∀ W, (binOp .quo 127 (.float .f64 (floatOfInt .f64 a)) (.float .f64 4679240012837945344)).run Tryz.prog W = .ok (.float .f64 r) W := fun W => run_float_arith W .quo _ .f64 _ _ r hr
  have fi : ∀ W, (binOp .quo 127 (.float .f64 (floatOfInt .f64 b)) (.float .f64 4679240012837945344)).run Tryz.prog W = .ok (.float .f64 i) W := fun W => run_float_arith W .quo _ .f64 _ _ i hi
  clear m1 m2 q1 q2 b1 hab hr hi
  go_upto_region 7 with (fail)
  go_quiet (fail)
  go_wp2_with fail
  go_ret2
  exact ⟨rfl, below_drewN (below_next hbw3 hbN) _⟩
set_option maxHeartbeats 4000000 in
theorem Number_form (p : Pr) (w : World) (hC : Con w) (he : numErr p = 0) (hab : ¬ (p.up.re * 65536).tmod p.d.sq = 0 ∨ ¬ (p.up.im * 65536).tmod p.d.sq = 0) :
    Calls Tryz.prog 15 #[.agg #[.int .i64 p.n.re, .int .i64 p.n.im, .int .i64 p.d.re, .int .i64 p.d.im]] w fun e w' => e = .returned (.tuple #[.complex .f64 0 0, .int .i64 1]) ∧ Below w.heap.size w w' := by
  have t1 : (fnz [smErr [p.n, p.d], 0] != 0) = false := by have := he; unfold numErr at this; rw [if_neg (num_zero he).2.2] at this; rw [this]; rfl
  obtain ⟨hn1, hn2, hz⟩ := num_zero he
  have hq := numNZ hz
  have hup := up_in hn1 hn2
  have hsq := G.sq_pos hz
  have hsq2 := G.sq_le hn2
  have hc : p.d.conj.nrm ≤ 60000 := by unfold G.nrm G.conj at *; simp only; omega
  obtain ⟨c, hcj⟩ : ∃ c, p.d.conj = c := ⟨_, rfl⟩
  obtain ⟨q, hqq⟩ : ∃ q, p.up = q := ⟨_, rfl⟩
  obtain ⟨S, hS⟩ : ∃ S, p.d.sq = S := ⟨_, rfl⟩
  rw [hqq] at hup
  rw [hS] at hsq hsq2
  have HCJ := hide hcj
  have HQ : Hid (p.n.mul c = q) := by rw [← hcj]; exact hqq
  have HS := hide hS
  have HU : Hid (q.nrm ≤ 9223372036854775807) := Nat.le_trans hup (by decide)
  have HN2 := hide hn2
  have s1 : 0 < S := hsq
  have s2 : 0 ≤ S ∧ S ≤ 9223372036854775807 := by omega
  have HBQ := hide hup
  rw [hqq, hS] at hab
  clear hn1 hn2 hz hup hsq hsq2 hc hcj hqq hS he
  go_enter Tryz.func15, Tryz.ntmps15
  go_upto_region 1 with (fail)
  obtain ⟨w1, e1, hb1, hz1, k0⟩ := box1 w #[.int .i64 p.n.re, .int .i64 p.n.im, .int .i64 p.d.re, .int .i64 p.d.im] 32
  rw [← e1]; clear e1
  have hcn := hC.carry hb1
  have n0 : ∀ W, Below w1.heap.size w1 W → W.cell? ⟨0, 0, none⟩ = some (.int .i64 0) := fun W h => (hcn.carry h).n0
  have n1 : ∀ W, Below w1.heap.size w1 W → W.cell? ⟨0, 1, none⟩ = some (.int .i64 0) := fun W h => (hcn.carry h).n1
  have c0 : ∀ i W, Below w1.heap.size w1 W → W.cell? ⟨w.heap.size, i, none⟩ = (#[.int .i64 p.n.re, .int .i64 p.n.im, .int .i64 p.d.re, .int .i64 p.d.im] : Array Value)[i]? := fun i W h => (carryK k0 h).cell i
  go_region_held3 (fun W => Below w1.heap.size w1 W) (first | exact (Below.refl _ _).drew | (with_reducible assumption) | exact below_new ‹Below w1.heap.size w1 _› (Nat.le_refl _) _ | (refine below_set (below_set (below_set (below_set (by assumption) (by omega) _) (by omega) _) (by omega) _) (by omega) _)) (first | (go_at_call 83; (first | (with_reducible (refine (checkSmall_any [p.n, p.d] _ 2 _ _ (reads2G _ _ _ _ _ (by simp)) (by omega)).mono ?_)) | (with_reducible (refine (checkSmall_any [p.n, p.d] _ 2 _ _ (Reads.drew (reads2G _ _ _ _ _ (by simp))) (by omega)).mono ?_))); rintro e W' ⟨rfl, hbW⟩; have hS := below_step ‹Below w1.heap.size w1 _› hbW (Below.size ‹Below w1.heap.size w1 _›)) | (go_at_call 84; refine (when_any _ _ _).mono ?_; rintro e W' ⟨rfl, rfl⟩) | (go_at_call 82; (first | (with_reducible (refine (first_any _ _ _ _ _ _ (reads2 _ _ _ _) (by omega)).mono ?_)) | (with_reducible (refine (first_any _ _ _ _ _ _ (Reads.drew (reads2 _ _ _ _)) (by omega)).mono ?_))); rintro e W' ⟨rfl, rfl⟩))
  have hB3 := ‹Below w1.heap.size w1 _›
  generalize World.alloc W' _ = w3 at hB3 ⊢
  clear n0 n1 c0 hS hbW
  have hbw3 := below_next hb1 hB3
  have k3 := carryK k0 hB3
  clear hq
  go_upto_region 4 with (fail)
  refine wp_region_alloc1 9 (af := ?af1) (t1 := 23) (cs1 := #[.int .i64 0, .int .i64 0]) (by kernel_rfl) (by kernel_rfl) (by kernel_rfl) rfl ⟨rfl, rfl, fun _ _ => by kernel_rfl⟩ (by kernel_rfl) ?q1n ?q2n
  case q1n =>
    intro W0 hW0
    have c0 := over_blk (carryK (w' := W0) k3 (by repeat (first | with_reducible assumption | exact Below.refl _ _ | refine below_next (by with_reducible assumption) ?_))) (carryK (w' := W0) k3 (by repeat (first | with_reducible assumption | exact Below.refl _ _ | refine below_next (by with_reducible assumption) ?_))).lt
    simp only [List.take_succ_cons, List.take_zero]
    (repeat (first | go_big_quiet_step (first | (go_at_call 86; with_reducible exact over_call (Nat.le_refl _) (nconj_any p.d c _ HCJ.out HN2.out)) | (go_at_call 85; with_reducible exact over_call (Nat.le_refl _) (times_g p.n c q _ HQ.out HU.out)) | (go_at_call 87; with_reducible exact over_call (Nat.le_refl _) (square_in2 p.d S _ HS.out s2)))))
    refine wpQuiet_nil ?_
    rfl
  intro g Y hg hbY kN0
  simp only [List.drop_succ_cons, List.drop_zero, Act.put, List.setIfInBounds_toArray, List.set_cons_succ, List.set_cons_zero]
  have cN0 := kN0.cell
  have fN0 := kN0.frozen
  go_upto_region 5 with (fail)
  have kN : Blk _ g 23 #[.int .i64 q.re, .int .i64 q.im] := blk2 (u0 := .int .i64 q.re) (u1 := .int .i64 q.im) kN0
  have hbN := below2 (u0 := .int .i64 q.re) (u1 := .int .i64 q.im) hbY hg
  clear cN0 fN0
  generalize World.setCell _ _ _ = Z at kN hbN ⊢
  have cN := kN.cell
  obtain ⟨X, hX⟩ : ∃ X, q.re * 65536 = X := ⟨_, rfl⟩
  obtain ⟨Y2, hY⟩ : ∃ X, q.im * 65536 = X := ⟨_, rfl⟩
  have hxb : (-300000000000000 ≤ X ∧ X ≤ 300000000000000) ∧ -300000000000000 ≤ Y2 ∧ Y2 ≤ 300000000000000 := by have := HBQ.out; unfold G.nrm at this; omega
  have x1 : wrap64 (q.re * 65536) = X := by rw [hX]; unfold wrap64; omega
  have x2 : wrap64 (q.im * 65536) = Y2 := by rw [hY]; unfold wrap64; omega
  have x3 : IntKind.i64.wrap (q.re * 65536) = X := by rw [hX]; exact IntWalk.i64_in _ (by omega)
  have x4 : IntKind.i64.wrap (q.im * 65536) = Y2 := by rw [hY]; exact IntWalk.i64_in _ (by omega)
  have t4 : (S == 0) = false := by simp; omega
  have HX := hide hX
  have HY := hide hY
  clear hxb hX hY
  rw [HX.out, HY.out] at hab
  by_cases h1 : X.tmod S = 0
  · have h2 : ¬ Y2.tmod S = 0 := hab.elim (fun h => absurd h1 h) id
    have t5 : (X.tmod S != 0) = false := by rw [h1]; rfl
    have t6 : (Y2.tmod S != 0) = true := by simpa using h2
    clear h1 h2 hab
    go_wp2_with fail
    go_ret2
    exact ⟨rfl, below_next hbw3 hbN⟩
  · have t5 : (X.tmod S != 0) = true := by simpa using h1
    clear h1 hab
    go_wp2_with fail
    go_ret2
    exact ⟨rfl, below_next hbw3 hbN⟩
end Go.Proofs.YtnndaipnfniciaaGreatDoor
