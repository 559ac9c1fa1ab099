/- CheckFour, sums, Harmonics of the reference. -/
import Derived.Test.YtcihiglpahhboaaGreatDoorBaseK
import Derived.Test.YtcihiglpahhboaaGreatDoorATurn
namespace Go.Proofs.YtcihiglpahhboaaGreatDoor
open Go.RowKit Go.Shelf
set_option maxRecDepth 100000
set_option maxHeartbeats 2000000 in
theorem rCheckFour_any (p : F4) (w : World) :
    Calls Tryz.prog 77 #[.agg #[.int .i64 p.a.re, .int .i64 p.a.im, .int .i64 p.b.re, .int .i64 p.b.im, .int .i64 p.c.re, .int .i64 p.c.im, .int .i64 p.d.re, .int .i64 p.d.im]] w fun e w' => e = .returned (.int .i64 (fourE p)) ∧ Below w.heap.size w w' := by
  go_enter Tryz.func77, Tryz.ntmps77
  go_upto_region 1 with (fail)
  obtain ⟨w1, e1, hb1, hz1, k0⟩ := box1 w #[.int .i64 p.a.re, .int .i64 p.a.im, .int .i64 p.b.re, .int .i64 p.b.im, .int .i64 p.c.re, .int .i64 p.c.im, .int .i64 p.d.re, .int .i64 p.d.im] 114
  rw [← e1]; clear e1
  go_wp2_with fail
  go_loopw [3] (fun i wr => ∃ k : Nat, k ≤ 4 ∧ i = .int .i64 k ∧ Hid (zeros (p.l.map gErr) k) ∧ Blk wr w.heap.size 114 (qcs fun j => p.l.getD j .zero).toArray ∧ Below w.heap.size w wr) (fun i _ => 4 - (intOf i).toNat)
  case atStart => exact ⟨0, by omega, rfl, by intro y hy; simp at hy, k0, hb1⟩
  case round =>
    rename World => wo
    clear k0 hb1
    obtain ⟨k, hk, rfl, HZ, kP, hb⟩ := hrel
    by_cases hlt : k < 4
    · have hki : (k : Int) < 4 := by omega
      obtain ⟨i0, i1⟩ := qcs_at hlt kP
      have hx : (p.l.map gErr)[k]? = some (gErr (p.l.getD k .zero)) := by rw [List.getElem?_map, F4.at hlt]; rfl
      obtain ⟨z, ez⟩ : ∃ z, p.l.getD k .zero = z := ⟨_, rfl⟩
      rw [ez] at i0 i1 hx
      have HX := hide hx
      have c0 : ∀ x, (over wo.heap.size wo x).cell? ⟨w.heap.size, k * 2, none⟩ = some (.int .i64 z.re) := fun x => ((over_below _ _ _).cell (p := ⟨w.heap.size, k * 2, none⟩) kP.lt).trans i0
      have c1 : ∀ x, (over wo.heap.size wo x).cell? ⟨w.heap.size, k * 2 + 1, none⟩ = some (.int .i64 z.im) := fun x => ((over_below _ _ _).cell (p := ⟨w.heap.size, k * 2 + 1, none⟩) kP.lt).trans i1
      clear i0 i1 hx ez
      go_upto_region 4 with (fail)
      refine wp_region_part 10 wo.heap.size (by kernel_rfl) (by kernel_rfl) ?_; simp only [List.take_succ_cons, List.take_zero, List.drop_succ_cons, List.drop_zero]; (repeat (first | go_big_quiet_step ((go_at_call 91; exact over_same (checkRange_any _ _ _ _))) | quiet_step ((go_at_call 91; exact over_same (checkRange_any _ _ _ _))))); refine wpQuiet_nil ?_; rintro W ⟨x, rfl⟩
      have hbY := over_below wo.heap.size wo x
      generalize over wo.heap.size wo x = Y at hbY ⊢
      clear c0 c1
      have kPY := carryK kP hbY
      have hbwY := below_next hb hbY
      by_cases h0 : gErr z = 0
      · have t0 : (fnz [rng z.re (-999999999) 999999999, rng z.im (-999999999) 999999999] != 0) = false := by rw [show fnz [rng z.re (-999999999) 999999999, rng z.im (-999999999) 999999999] = 0 from h0]; rfl
        have H0 := hide h0
        clear h0
        go_wp2_with ((go_at_call 22; (first | (with_reducible (refine (rFirst_any _ _ _ _ _ _ (reads2 _ _ _ _) (by omega)).mono ?_)) | (with_reducible (refine (rFirst_any _ _ _ _ _ _ (Reads.drew (reads2 _ _ _ _)) (by omega)).mono ?_))); rintro e W' ⟨rfl, rfl⟩))
        go_roundw
        case rel => exact ⟨k + 1, by omega, by go_num, zeros_succ HZ.out HX.out (by rw [H0.out]; rfl), kPY.alloc _, hbwY.alloc hbwY.size _⟩
        case measure => simp [intOf]; omega
      · have t0 : (fnz [rng z.re (-999999999) 999999999, rng z.im (-999999999) 999999999] != 0) = true := by simpa using (show ¬ fnz [rng z.re (-999999999) 999999999, rng z.im (-999999999) 999999999] = 0 from h0)
        have hh : fourE p = gErr z := fnz_hit HX.out HZ.out (by simpa using h0)
        have HH := hide hh
        clear h0 hh
        go_wp2_with ((go_at_call 22; (first | (with_reducible (refine (rFirst_any _ _ _ _ _ _ (reads2 _ _ _ _) (by omega)).mono ?_)) | (with_reducible (refine (rFirst_any _ _ _ _ _ _ (Reads.drew (reads2 _ _ _ _)) (by omega)).mono ?_))); rintro e W' ⟨rfl, rfl⟩))
        go_ret
        exact ⟨by rw [HH.out]; rfl, hbwY.alloc hbwY.size _⟩
    · obtain rfl : k = 4 := by omega
      have hh : fourE p = 0 := zeros_end HZ.out (by simp [F4.l])
      have HH := hide hh
      clear hh
      go_wp2_with fail
      go_ret
      exact ⟨by rw [HH.out]; rfl, hb⟩
set_option maxHeartbeats 4000000 in
theorem rSums_any (p : F4) (sign : Int) (w : World) (hs : sign = 1 ∨ sign = -1) (hB : Bnd p.l 100000000000) :
    Calls Tryz.prog 119 #[.agg #[.int .i64 p.a.re, .int .i64 p.a.im, .int .i64 p.b.re, .int .i64 p.b.im, .int .i64 p.c.re, .int .i64 p.c.im, .int .i64 p.d.re, .int .i64 p.d.im], .int .i64 sign] w fun e w' => e = .returned (.agg #[.int .i64 (trV sign p).a.re, .int .i64 (trV sign p).a.im, .int .i64 (trV sign p).b.re, .int .i64 (trV sign p).b.im, .int .i64 (trV sign p).c.re, .int .i64 (trV sign p).c.im, .int .i64 (trV sign p).d.re, .int .i64 (trV sign p).d.im]) ∧ Below w.heap.size w w' := by
  have HB := hide hB
  have HSG := hide hs
  clear hB hs
  go_enter Tryz.func119, Tryz.ntmps119
  go_upto_region 2 with (fail)
  obtain ⟨w1, e1, hb1, hz1, kI, k0, k1⟩ := box3 w #[.int .i64 p.a.re, .int .i64 p.a.im, .int .i64 p.b.re, .int .i64 p.b.im, .int .i64 p.c.re, .int .i64 p.c.im, .int .i64 p.d.re, .int .i64 p.d.im] #[.int .i64 0, .int .i64 0, .int .i64 0, .int .i64 0, .int .i64 0, .int .i64 0, .int .i64 0, .int .i64 0] #[.int .i64 0, .int .i64 0, .int .i64 0, .int .i64 0, .int .i64 0, .int .i64 0, .int .i64 0, .int .i64 0] 114 114 114
  rw [← e1]; clear e1
  go_wp2_with fail
  go_loopw [6] (fun i wr => ∃ m : Nat, m ≤ 4 ∧ i = .int .i64 m ∧ Blk wr w.heap.size 114 #[.int .i64 p.a.re, .int .i64 p.a.im, .int .i64 p.b.re, .int .i64 p.b.im, .int .i64 p.c.re, .int .i64 p.c.im, .int .i64 p.d.re, .int .i64 p.d.im] ∧ Blk wr (w.heap.size + 1) 114 #[.int .i64 0, .int .i64 0, .int .i64 0, .int .i64 0, .int .i64 0, .int .i64 0, .int .i64 0, .int .i64 0] ∧ Blk wr (w.heap.size + 2) 114 (qcs (trF sign p m 0)).toArray ∧ Below w.heap.size w wr) (fun i _ => 4 - (intOf i).toNat)
  case atStart => exact ⟨0, by omega, rfl, kI, k0, k1, hb1⟩
  case round =>
    rename World => wo
    clear kI k0 k1 hb1
    obtain ⟨m, hm, rfl, kI, k0, k1, hb⟩ := hrel
    by_cases hlt : m < 4
    · have hmi : (m : Int) < 4 := by omega
      have cI := kI.cell
      go_wp2_with fail
      go_loopw [7] (fun i wr => ∃ k : Nat, k ≤ 4 ∧ i = .int .i64 k ∧ Blk wr w.heap.size 114 #[.int .i64 p.a.re, .int .i64 p.a.im, .int .i64 p.b.re, .int .i64 p.b.im, .int .i64 p.c.re, .int .i64 p.c.im, .int .i64 p.d.re, .int .i64 p.d.im] ∧ Blk wr (w.heap.size + 1) 114 #[.int .i64 0, .int .i64 0, .int .i64 0, .int .i64 0, .int .i64 0, .int .i64 0, .int .i64 0, .int .i64 0] ∧ Blk wr (w.heap.size + 2) 114 (qcs (trF sign p m k)).toArray ∧ Below w.heap.size w wr) (fun i _ => 4 - (intOf i).toNat)
      case atStart => exact ⟨0, by omega, rfl, kI, k0, k1, hb⟩
      case round =>
        rename World => wq
        clear kI k0 k1 hb cI
        obtain ⟨k, hk, rfl, kI, k0, k1, hb⟩ := hrel
        by_cases hlt2 : k < 4
        · have hki : (k : Int) < 4 := by omega
          obtain ⟨z, ez⟩ : ∃ z, p.l.getD k .zero = z := ⟨_, rfl⟩
          have hz := HB.out k
          have hcur := trP_nrm sign HB.out m k
          have hnext := trP_nrm sign HB.out m (k + 1)
          have hstep := trP_succ sign p.l m k
          have harg := sgn_arg HSG.out hlt hlt2
          have hterm : trm sign p.l m k = (turnI (sign * m * k)).mul z := by
            unfold trm
            rw [ez]
          have hpc : Blk wq w.heap.size 114 (qcs fun j => p.l.getD j .zero).toArray := kI
          obtain ⟨i0, i1⟩ := qcs_at hlt2 hpc
          rw [ez] at hz i0 i1
          rw [hterm] at hstep
          have hcv : trF sign p m k m = trP sign p.l m k := by unfold trF; rw [if_neg (Nat.lt_irrefl m), if_pos rfl]
          have hup := trF_upd sign p m k
          obtain ⟨C, hC⟩ : ∃ C, trP sign p.l m k = C := ⟨_, rfl⟩
          obtain ⟨C', hC'⟩ : ∃ C', trP sign p.l m (k + 1) = C' := ⟨_, rfl⟩
          rw [hC] at hcv hcur hstep
          rw [hC'] at hstep hnext hup
          obtain ⟨q, hq⟩ : ∃ q, sign * (m : Int) * (k : Int) = q := ⟨_, rfl⟩
          rw [hq] at harg hstep
          have hturn : Hid (∀ W, Calls Tryz.prog 72 #[.agg #[.int .i64 z.re, .int .i64 z.im], .int .i64 q] W fun e W' => e = .returned (.agg #[.int .i64 ((turnI q).mul z).re, .int .i64 ((turnI q).mul z).im]) ∧ Below W.heap.size W W') := fun W => qTurn_any z q W (by omega)
          have hplus : Hid (∀ W, Calls Tryz.prog 73 #[.agg #[.int .i64 C.re, .int .i64 C.im], .agg #[.int .i64 ((turnI q).mul z).re, .int .i64 ((turnI q).mul z).im]] W fun e W' => e = .returned (.agg #[.int .i64 C'.re, .int .i64 C'.im]) ∧ Below W.heap.size W W') := fun W => by
            have := rPlus_any C ((turnI q).mul z) W
            rw [← hstep, G.w_in (by have : (k + 1) * 100000000000 ≤ 4 * 100000000000 := Nat.mul_le_mul (by omega) (Nat.le_refl _); omega)] at this
            exact this
          have HUP := hide hup
          obtain ⟨o0, o1⟩ := qcs_at hlt k1
          rw [hcv] at o0 o1
          clear hz ez hcur hnext hstep hterm hup hC hC' hcv hq hpc
          have c0 : ∀ x, (over wq.heap.size wq x).cell? ⟨w.heap.size, k * 2, none⟩ = some (.int .i64 z.re) := fun x => ((over_below _ _ _).cell (p := ⟨w.heap.size, k * 2, none⟩) kI.lt).trans i0
          have c1 : ∀ x, (over wq.heap.size wq x).cell? ⟨w.heap.size, k * 2 + 1, none⟩ = some (.int .i64 z.im) := fun x => ((over_below _ _ _).cell (p := ⟨w.heap.size, k * 2 + 1, none⟩) kI.lt).trans i1
          have r0 : ∀ x, (over wq.heap.size wq x).cell? ⟨w.heap.size + 2, m * 2, none⟩ = some (.int .i64 C.re) := fun x => ((over_below _ _ _).cell (p := ⟨w.heap.size + 2, m * 2, none⟩) k1.lt).trans o0
          have r1 : ∀ x, (over wq.heap.size wq x).cell? ⟨w.heap.size + 2, m * 2 + 1, none⟩ = some (.int .i64 C.im) := fun x => ((over_below _ _ _).cell (p := ⟨w.heap.size + 2, m * 2 + 1, none⟩) k1.lt).trans o1
          clear i0 i1 o0 o1
          go_upto_region 8 with (fail)
          refine wp_region_part 15 wq.heap.size (by kernel_rfl) (by kernel_rfl) ?_; simp only [List.take_succ_cons, List.take_zero, List.drop_succ_cons, List.drop_zero]; (repeat (first | go_big_quiet_step (first | (go_at_call 72; exact over_call (Nat.le_refl _) (hturn.out _)) | (go_at_call 73; exact over_call (Nat.le_refl _) (hplus.out _))) | quiet_step (first | (go_at_call 72; exact over_call (Nat.le_refl _) (hturn.out _)) | (go_at_call 73; exact over_call (Nat.le_refl _) (hplus.out _))))); refine wpQuiet_nil ?_; rintro W ⟨x, rfl⟩
          have hbY := over_below wq.heap.size wq x
          generalize over wq.heap.size wq x = Y at hbY ⊢
          have kIY := carryK kI hbY
          have k0Y := carryK k0 hbY
          have k1Y := carryK k1 hbY
          have hbwY := below_next hb hbY
          clear c0 c1 r0 r1 harg kI k0 k1 hb
          obtain ⟨v0, hv0⟩ : ∃ v, Y.cell? ⟨w.heap.size + 2, m * 2, none⟩ = some v := ⟨_, (qcs_at hlt k1Y).1⟩
          obtain ⟨v1, hv1⟩ : ∃ v, Y.cell? ⟨w.heap.size + 2, m * 2 + 1, none⟩ = some v := ⟨_, (qcs_at hlt k1Y).2⟩
          have f1 := k1Y.frozen
          have kX := qcs_set hlt C' k1Y
          rw [HUP.out] at kX
          have k0X := (k0Y.far (p := ⟨w.heap.size + 2, m * 2, none⟩) (by show w.heap.size + 1 ≠ w.heap.size + 2; omega) (.int .i64 C'.re)).far (p := ⟨w.heap.size + 2, m * 2 + 1, none⟩) (by show w.heap.size + 1 ≠ w.heap.size + 2; omega) (.int .i64 C'.im)
          have kIX := (kIY.far (p := ⟨w.heap.size + 2, m * 2, none⟩) (by show w.heap.size ≠ w.heap.size + 2; omega) (.int .i64 C'.re)).far (p := ⟨w.heap.size + 2, m * 2 + 1, none⟩) (by show w.heap.size ≠ w.heap.size + 2; omega) (.int .i64 C'.im)
          have hX := below_set (below_set hbwY (show w.heap.size ≤ w.heap.size + 2 by omega) (i := m * 2) (.int .i64 C'.re)) (show w.heap.size ≤ w.heap.size + 2 by omega) (i := m * 2 + 1) (.int .i64 C'.im)
          clear kIY k0Y k1Y hbwY
          go_wp2_with fail
          go_roundw
          case rel => exact ⟨k + 1, by omega, by go_num, kIX, k0X, kX, hX⟩
          case measure => simp [intOf]; omega
        · obtain rfl : k = 4 := by omega
          rw [trF_next] at k1
          go_wp2_with fail
          go_roundw
          case rel => exact ⟨m + 1, by omega, by go_num, kI, k0, k1, hb⟩
          case measure => simp [intOf]; omega
    · obtain rfl : m = 4 := by omega
      have k1 : Blk wo (w.heap.size + 2) 114 #[.int .i64 (trV sign p).a.re, .int .i64 (trV sign p).a.im, .int .i64 (trV sign p).b.re, .int .i64 (trV sign p).b.im, .int .i64 (trV sign p).c.re, .int .i64 (trV sign p).c.im, .int .i64 (trV sign p).d.re, .int .i64 (trV sign p).d.im] := k1
      have c1 := k1.cell
      have c0 := k0.cell
      have f0 := k0.frozen
      go_wp2_with fail
      with_reducible refine fins8 114 hb (Nat.le_succ w.heap.size) k0 (fun X hX kX => ?_)
      have cX := kX.cell
      refine bodyPost_ret (v := .agg #[.int .i64 (trV sign p).a.re, .int .i64 (trV sign p).a.im, .int .i64 (trV sign p).b.re, .int .i64 (trV sign p).b.im, .int .i64 (trV sign p).c.re, .int .i64 (trV sign p).c.im, .int .i64 (trV sign p).d.re, .int .i64 (trV sign p).d.im]) (by simp [results, Tryz.results119, go_sem, cX]) rfl ?_
      exact ⟨rfl, hX⟩
theorem rHarmonics_any (p : F4) (w : World) (hB : Bnd p.l 100000000000) :
    Calls Tryz.prog 78 #[.agg #[.int .i64 p.a.re, .int .i64 p.a.im, .int .i64 p.b.re, .int .i64 p.b.im, .int .i64 p.c.re, .int .i64 p.c.im, .int .i64 p.d.re, .int .i64 p.d.im]] w fun e w' => e = .returned (.agg #[.int .i64 (trV (-1) p).a.re, .int .i64 (trV (-1) p).a.im, .int .i64 (trV (-1) p).b.re, .int .i64 (trV (-1) p).b.im, .int .i64 (trV (-1) p).c.re, .int .i64 (trV (-1) p).c.im, .int .i64 (trV (-1) p).d.re, .int .i64 (trV (-1) p).d.im]) ∧ Below w.heap.size w w' := by
  go_enter Tryz.func78, Tryz.ntmps78
  go_upto_region 1 with (fail)
  obtain ⟨w1, e1, hb1, hz1, k0, k1⟩ := box2 w #[.int .i64 p.a.re, .int .i64 p.a.im, .int .i64 p.b.re, .int .i64 p.b.im, .int .i64 p.c.re, .int .i64 p.c.im, .int .i64 p.d.re, .int .i64 p.d.im] #[.int .i64 0, .int .i64 0, .int .i64 0, .int .i64 0, .int .i64 0, .int .i64 0, .int .i64 0, .int .i64 0] 114 114
  rw [← e1]; clear e1
  have c0 := k0.cell
  go_wp2_with fail
  refine (rSums_any p (-1) _ (.inr rfl) hB).mono ?_
  rintro e w2 ⟨rfl, hb2⟩
  clear c0
  have k12 := carryK k1 hb2
  have hb02 := below_next hb1 hb2
  have c1 := k12.cell
  have f1 := k12.frozen
  go_wp2_with fail
  with_reducible refine fins8 114 hb02 (Nat.le_succ w.heap.size) k12 (fun X hX kX => ?_)
  have cX := kX.cell
  refine bodyPost_ret (v := .agg #[.int .i64 (trV (-1) p).a.re, .int .i64 (trV (-1) p).a.im, .int .i64 (trV (-1) p).b.re, .int .i64 (trV (-1) p).b.im, .int .i64 (trV (-1) p).c.re, .int .i64 (trV (-1) p).c.im, .int .i64 (trV (-1) p).d.re, .int .i64 (trV (-1) p).d.im]) (by simp [results, Tryz.results78, go_sem, cX]) rfl ?_
  exact ⟨rfl, hX⟩
end Go.Proofs.YtcihiglpahhboaaGreatDoor
