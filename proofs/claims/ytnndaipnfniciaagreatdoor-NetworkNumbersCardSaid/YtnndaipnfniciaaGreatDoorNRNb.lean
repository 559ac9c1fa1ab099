/- The reference's Number. -/
import Derived.Test.YtnndaipnfniciaaGreatDoorNRNum
import Derived.Test.YtnndaipnfniciaaGreatDoorNNumP
import Derived.Test.YtnndaipnfniciaaGreatDoorNBey
import Derived.Test.YtnndaipnfniciaaGreatDoorBaseW
import Derived.Test.YtnndaipnfniciaaGreatDoorNFin2
import Derived.Test.YtnndaipnfniciaaGreatDoorBaseC
namespace Go.Proofs.YtnndaipnfniciaaGreatDoor
open Go.RowKit Go.Shelf
set_option maxRecDepth 100000
theorem rTimes_g (a b T : G) (w : World) (hT : a.mul b = T) (hin : T.nrm ≤ 9223372036854775807) :
    Calls Tryz.prog 61 #[.agg #[.int .i64 a.re, .int .i64 a.im], .agg #[.int .i64 b.re, .int .i64 b.im]] w fun e w' => e = .returned (.agg #[.int .i64 T.re, .int .i64 T.im]) ∧ Below w.heap.size w w' := by
  have := rTimes_any a b w
  rwa [hT, G.w_in hin] at this
theorem rConj_g (a b : G) (w : World) (hT : a.conj = b) (hin : a.nrm ≤ 60000) :
    Calls Tryz.prog 62 #[.agg #[.int .i64 a.re, .int .i64 a.im]] w fun e w' => e = .returned (.agg #[.int .i64 b.re, .int .i64 b.im]) ∧ Below w.heap.size w w' := by
  subst hT
  exact conjIn_any a (conj_im (by omega)) w
theorem rSq_g (a : G) (S : Int) (w : World) (hS : a.sq = S) (h : 0 ≤ S ∧ S ≤ 9223372036854775807) :
    Calls Tryz.prog 63 #[.agg #[.int .i64 a.re, .int .i64 a.im]] w fun e w' => e = .returned (.int .i64 S) ∧ Below w.heap.size w w' := by
  subst hS
  exact sqIn_any a (wr_in (by omega)) w
set_option maxHeartbeats 4000000 in
theorem rNumber_ok (p : Pr) (w : World) (he : numErr p = 0) (x y : Rt) (hx : lowI p.up.re p.d.sq = x) (hy : lowI p.up.im p.d.sq = y) (d1 : 0 < x.d) (d2 : 0 < y.d) (m1 : (65536 : Int) % x.d = 0) (m2 : (65536 : Int) % y.d = 0) (r i : Nat)
    (hr : floatBits .quo .f64 (floatOfInt .f64 x.n) (floatOfInt .f64 x.d) = some r) (hi : floatBits .quo .f64 (floatOfInt .f64 y.n) (floatOfInt .f64 y.d) = some i) :
    Calls Tryz.prog 21 #[.agg #[.int .i64 p.n.re, .int .i64 p.n.im, .int .i64 p.d.re, .int .i64 p.d.im]] w fun e w' => e = .returned (.tuple #[.complex .f64 r i, .int .i64 0]) ∧ Below w.heap.size w w' := by
  obtain ⟨hn1, hn2, hz⟩ := num_zero he
  have hup := up_in hn1 hn2
  have hsq := G.sq_pos hz
  have hsq2 := G.sq_le hn2
  have hc : p.d.conj.nrm ≤ 60000 := by unfold G.nrm G.conj at *; simp only; omega
  obtain ⟨c, hcj⟩ : ∃ c, p.d.conj = c := ⟨_, rfl⟩
  obtain ⟨q, hqq⟩ : ∃ q, p.up = q := ⟨_, rfl⟩
  obtain ⟨S, hS⟩ : ∃ S, p.d.sq = S := ⟨_, rfl⟩
  rw [hqq] at hup
  rw [hS] at hsq hsq2
  have hqr : q.re.natAbs ≤ 3600000000 ∧ q.im.natAbs ≤ 3600000000 := by unfold G.nrm at hup; omega
  have HCJ := hide hcj
  have HQ : Hid (p.n.mul c = q) := by rw [← hcj]; exact hqq
  have HS := hide hS
  have HU : Hid (q.nrm ≤ 9223372036854775807) := Nat.le_trans hup (by decide)
  have HN2 := hide hn2
  have s2 : 0 ≤ S ∧ S ≤ 9223372036854775807 := by omega
  have L1 : Hid (∀ W, Calls Tryz.prog 75 #[.int .i64 q.re, .int .i64 S] W fun e w' => e = .returned (.agg #[.int .i64 x.n, .int .i64 x.d]) ∧ Below W.heap.size W w') := fun W => by
    rw [hqq, hS] at hx; rw [← hx]
    exact rLowest_any q.re S W (by omega) (by omega)
  have L2 : Hid (∀ W, Calls Tryz.prog 75 #[.int .i64 q.im, .int .i64 S] W fun e w' => e = .returned (.agg #[.int .i64 y.n, .int .i64 y.d]) ∧ Below W.heap.size W w') := fun W => by
    rw [hqq, hS] at hy; rw [← hy]
    exact rLowest_any q.im S W (by omega) (by omega)
  clear hn1 hn2 hz hup hsq hsq2 hc hcj hqq hS he hx hy hqr
  go_enter Tryz.func21, Tryz.ntmps21
  go_upto_region 1 with (fail)
  obtain ⟨w1, e1, hb1, hz1, k0⟩ := box1 w #[.int .i64 p.n.re, .int .i64 p.n.im, .int .i64 p.d.re, .int .i64 p.d.im] 25
  rw [← e1]; clear e1
  refine wp_region_alloc1 9 (af := ?af1) (t1 := 23) (cs1 := #[.int .i64 0, .int .i64 0]) (by kernel_rfl) (by kernel_rfl) (by kernel_rfl) rfl ⟨rfl, rfl, fun _ _ => by kernel_rfl⟩ (by kernel_rfl) ?q1n ?q2n
  case q1n =>
    intro W0 hW0
    have c0 := over_blk (carryK (w' := W0) k0 (by repeat (first | with_reducible assumption | exact Below.refl _ _ | refine below_next (by with_reducible assumption) ?_))) (carryK (w' := W0) k0 (by repeat (first | with_reducible assumption | exact Below.refl _ _ | refine below_next (by with_reducible assumption) ?_))).lt
    simp only [List.take_succ_cons, List.take_zero]
    (repeat (first | go_big_quiet_step (first | (go_at_call 62; with_reducible exact over_call (Nat.le_refl _) (rConj_g p.d c _ HCJ.out HN2.out)) | (go_at_call 61; with_reducible exact over_call (Nat.le_refl _) (rTimes_g p.n c q _ HQ.out HU.out)) | (go_at_call 63; with_reducible exact over_call (Nat.le_refl _) (rSq_g p.d S _ HS.out s2)))))
    refine wpQuiet_nil ?_
    rfl
  intro g Y hg hbY kN0
  simp only [List.drop_succ_cons, List.drop_zero, Act.put, List.setIfInBounds_toArray, List.set_cons_succ, List.set_cons_zero]
  have cN0 := kN0.cell
  have fN0 := kN0.frozen
  go_upto_region 2 with (fail)
  have kN : Blk _ g 23 #[.int .i64 q.re, .int .i64 q.im] := blk2 (u0 := .int .i64 q.re) (u1 := .int .i64 q.im) kN0
  have hbN := below2 (u0 := .int .i64 q.re) (u1 := .int .i64 q.im) hbY hg
  clear cN0 fN0
  generalize World.setCell _ _ _ = Z at kN hbN ⊢
  refine wp_region_alloc2 8 (af := ?af2) (t1 := 54) (t2 := 54) (cs1 := #[.int .i64 0, .int .i64 0]) (cs2 := #[.int .i64 0, .int .i64 0]) (by kernel_rfl) (by kernel_rfl) (by kernel_rfl) rfl ⟨rfl, rfl, fun _ _ => by kernel_rfl⟩ (by kernel_rfl) rfl ⟨rfl, rfl, fun _ _ => by kernel_rfl⟩ (by kernel_rfl) (by decide) ?q3n ?q4n
  case q3n =>
    intro W0 hW0
    have c0 := over_blk (carryK (w' := W0) kN hW0) (carryK (w' := W0) kN hW0).lt
    simp only [List.take_succ_cons, List.take_zero]
    (repeat (first | go_big_quiet_step (first | (go_at_call 75; with_reducible first | exact over_call (Nat.le_refl _) (L1.out _) | exact over_call (Nat.le_refl _) (L2.out _)))))
    refine wpQuiet_nil ?_
    rfl
  intro gV gI Y0 hgV hgI hne hbY0 kV0 kI0
  simp only [List.drop_succ_cons, List.drop_zero, Act.put, List.setIfInBounds_toArray, List.set_cons_succ, List.set_cons_zero]
  have fV := kV0.frozen
  have fI := kI0.frozen
  have cV0 := kV0.cell
  have cI0 := kI0.cell
  have hne' := Ne.symm hne
  go_upto_region 3 with (fail)
  clear fV fI cV0 cI0 hne'
  with_reducible refine fin22 (B := Z.heap.size) (v := Z) hne hbY0 hgV hgI kV0 kI0 (fun w20 hb20 kV kI => ?_)
  have hbE : Below w.heap.size w w20 := below_next (below_next hb1 hbN) hb20
  have cV := kV.cell
  have cI := kI.cell
  have t0 : (x.d == 0) = false := by simp; omega
  have t1 : (y.d == 0) = false := by simp; omega
  have t5 : ((65536 : Int).tmod x.d != 0) = false := by rw [Int.tmod_eq_emod_of_nonneg (by decide), m1]; rfl
  have t6 : ((65536 : Int).tmod y.d != 0) = false := by rw [Int.tmod_eq_emod_of_nonneg (by decide), m2]; rfl
  have t7 : ((65536 : Int) % x.d != 0) = false := by rw [m1]; rfl
  have t8 : ((65536 : Int) % y.d != 0) = false := by rw [m2]; rfl
  have fr : ∀ W, (binOp .quo 127 (.float .f64 (floatOfInt .f64 x.n)) (.float .f64 (floatOfInt .f64 x.d))).run Tryz.prog W = .ok (.float .f64 r) W := fun W => run_float_arith W .quo _ .f64 _ _ r hr
  have fi : ∀ W, (binOp .quo 127 (.float .f64 (floatOfInt .f64 y.n)) (.float .f64 (floatOfInt .f64 y.d))).run Tryz.prog W = .ok (.float .f64 i) W := fun W => run_float_arith W .quo _ .f64 _ _ i hi
  clear m1 m2 hr hi
  go_wp2_with fail
  go_ret2
  exact ⟨rfl, hbE⟩
set_option maxHeartbeats 4000000 in
theorem rNumber_form (p : Pr) (w : World) (he : numErr p = 0) (x y : Rt) (hx : lowI p.up.re p.d.sq = x) (hy : lowI p.up.im p.d.sq = y) (d1 : 0 < x.d) (d2 : 0 < y.d) (hm : ¬ (65536 : Int) % x.d = 0 ∨ ¬ (65536 : Int) % y.d = 0) :
    Calls Tryz.prog 21 #[.agg #[.int .i64 p.n.re, .int .i64 p.n.im, .int .i64 p.d.re, .int .i64 p.d.im]] w fun e w' => e = .returned (.tuple #[.complex .f64 0 0, .int .i64 1]) ∧ Below w.heap.size w w' := by
  obtain ⟨hn1, hn2, hz⟩ := num_zero he
  have hup := up_in hn1 hn2
  have hsq := G.sq_pos hz
  have hsq2 := G.sq_le hn2
  have hc : p.d.conj.nrm ≤ 60000 := by unfold G.nrm G.conj at *; simp only; omega
  obtain ⟨c, hcj⟩ : ∃ c, p.d.conj = c := ⟨_, rfl⟩
  obtain ⟨q, hqq⟩ : ∃ q, p.up = q := ⟨_, rfl⟩
  obtain ⟨S, hS⟩ : ∃ S, p.d.sq = S := ⟨_, rfl⟩
  rw [hqq] at hup
  rw [hS] at hsq hsq2
  have hqr : q.re.natAbs ≤ 3600000000 ∧ q.im.natAbs ≤ 3600000000 := by unfold G.nrm at hup; omega
  have HCJ := hide hcj
  have HQ : Hid (p.n.mul c = q) := by rw [← hcj]; exact hqq
  have HS := hide hS
  have HU : Hid (q.nrm ≤ 9223372036854775807) := Nat.le_trans hup (by decide)
  have HN2 := hide hn2
  have s2 : 0 ≤ S ∧ S ≤ 9223372036854775807 := by omega
  have L1 : Hid (∀ W, Calls Tryz.prog 75 #[.int .i64 q.re, .int .i64 S] W fun e w' => e = .returned (.agg #[.int .i64 x.n, .int .i64 x.d]) ∧ Below W.heap.size W w') := fun W => by
    rw [hqq, hS] at hx; rw [← hx]
    exact rLowest_any q.re S W (by omega) (by omega)
  have L2 : Hid (∀ W, Calls Tryz.prog 75 #[.int .i64 q.im, .int .i64 S] W fun e w' => e = .returned (.agg #[.int .i64 y.n, .int .i64 y.d]) ∧ Below W.heap.size W w') := fun W => by
    rw [hqq, hS] at hy; rw [← hy]
    exact rLowest_any q.im S W (by omega) (by omega)
  clear hn1 hn2 hz hup hsq hsq2 hc hcj hqq hS he hx hy hqr
  go_enter Tryz.func21, Tryz.ntmps21
  go_upto_region 1 with (fail)
  obtain ⟨w1, e1, hb1, hz1, k0⟩ := box1 w #[.int .i64 p.n.re, .int .i64 p.n.im, .int .i64 p.d.re, .int .i64 p.d.im] 25
  rw [← e1]; clear e1
  refine wp_region_alloc1 9 (af := ?af1) (t1 := 23) (cs1 := #[.int .i64 0, .int .i64 0]) (by kernel_rfl) (by kernel_rfl) (by kernel_rfl) rfl ⟨rfl, rfl, fun _ _ => by kernel_rfl⟩ (by kernel_rfl) ?q1n ?q2n
  case q1n =>
    intro W0 hW0
    have c0 := over_blk (carryK (w' := W0) k0 (by repeat (first | with_reducible assumption | exact Below.refl _ _ | refine below_next (by with_reducible assumption) ?_))) (carryK (w' := W0) k0 (by repeat (first | with_reducible assumption | exact Below.refl _ _ | refine below_next (by with_reducible assumption) ?_))).lt
    simp only [List.take_succ_cons, List.take_zero]
    (repeat (first | go_big_quiet_step (first | (go_at_call 62; with_reducible exact over_call (Nat.le_refl _) (rConj_g p.d c _ HCJ.out HN2.out)) | (go_at_call 61; with_reducible exact over_call (Nat.le_refl _) (rTimes_g p.n c q _ HQ.out HU.out)) | (go_at_call 63; with_reducible exact over_call (Nat.le_refl _) (rSq_g p.d S _ HS.out s2)))))
    refine wpQuiet_nil ?_
    rfl
  intro g Y hg hbY kN0
  simp only [List.drop_succ_cons, List.drop_zero, Act.put, List.setIfInBounds_toArray, List.set_cons_succ, List.set_cons_zero]
  have cN0 := kN0.cell
  have fN0 := kN0.frozen
  go_upto_region 2 with (fail)
  have kN : Blk _ g 23 #[.int .i64 q.re, .int .i64 q.im] := blk2 (u0 := .int .i64 q.re) (u1 := .int .i64 q.im) kN0
  have hbN := below2 (u0 := .int .i64 q.re) (u1 := .int .i64 q.im) hbY hg
  clear cN0 fN0
  generalize World.setCell _ _ _ = Z at kN hbN ⊢
  refine wp_region_alloc2 8 (af := ?af2) (t1 := 54) (t2 := 54) (cs1 := #[.int .i64 0, .int .i64 0]) (cs2 := #[.int .i64 0, .int .i64 0]) (by kernel_rfl) (by kernel_rfl) (by kernel_rfl) rfl ⟨rfl, rfl, fun _ _ => by kernel_rfl⟩ (by kernel_rfl) rfl ⟨rfl, rfl, fun _ _ => by kernel_rfl⟩ (by kernel_rfl) (by decide) ?q3n ?q4n
  case q3n =>
    intro W0 hW0
    have c0 := over_blk (carryK (w' := W0) kN hW0) (carryK (w' := W0) kN hW0).lt
    simp only [List.take_succ_cons, List.take_zero]
    (repeat (first | go_big_quiet_step (first | (go_at_call 75; with_reducible first | exact over_call (Nat.le_refl _) (L1.out _) | exact over_call (Nat.le_refl _) (L2.out _)))))
    refine wpQuiet_nil ?_
    rfl
  intro gV gI Y0 hgV hgI hne hbY0 kV0 kI0
  simp only [List.drop_succ_cons, List.drop_zero, Act.put, List.setIfInBounds_toArray, List.set_cons_succ, List.set_cons_zero]
  have fV := kV0.frozen
  have fI := kI0.frozen
  have cV0 := kV0.cell
  have cI0 := kI0.cell
  have hne' := Ne.symm hne
  go_upto_region 3 with (fail)
  clear fV fI cV0 cI0 hne'
  with_reducible refine fin22 (B := Z.heap.size) (v := Z) hne hbY0 hgV hgI kV0 kI0 (fun w20 hb20 kV kI => ?_)
  have hbE : Below w.heap.size w w20 := below_next (below_next hb1 hbN) hb20
  have cV := kV.cell
  have cI := kI.cell
  have t0 : (x.d == 0) = false := by simp; omega
  have t1 : (y.d == 0) = false := by simp; omega
  have e1 : (65536 : Int).tmod x.d = (65536 : Int) % x.d := Int.tmod_eq_emod_of_nonneg (by decide)
  have e2 : (65536 : Int).tmod y.d = (65536 : Int) % y.d := Int.tmod_eq_emod_of_nonneg (by decide)
  obtain ⟨u, hu⟩ : ∃ u, (65536 : Int) % x.d = u := ⟨_, rfl⟩
  obtain ⟨v, hv⟩ : ∃ u, (65536 : Int) % y.d = u := ⟨_, rfl⟩
  rw [hu] at e1 hm
  rw [hv] at e2 hm
  by_cases h1 : u = 0
  · have t5 : (u != 0) = false := by simpa using h1
    have t6 : (v != 0) = true := by simpa using hm.elim (fun h => absurd h1 h) id
    clear h1 hm
    go_wp2_with fail
    go_ret2
    exact ⟨rfl, hbE⟩
  · have t5 : (u != 0) = true := by simpa using h1
    clear h1 hm
    go_wp2_with fail
    go_ret2
    exact ⟨rfl, hbE⟩
end Go.Proofs.YtnndaipnfniciaaGreatDoor
