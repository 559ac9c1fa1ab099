/- Back of the reference. -/
import Derived.Test.YtcihiglpahhboaaGreatDoorARFour
namespace Go.Proofs.YtcihiglpahhboaaGreatDoor
open Go.RowKit Go.Shelf
set_option maxRecDepth 100000
set_option maxHeartbeats 4000000 in
theorem rBack_any (p : F4) (w : World) (h0 : fourE p = 0) :
    Calls Tryz.prog 79 #[.agg #[.int .i64 p.a.re, .int .i64 p.a.im, .int .i64 p.b.re, .int .i64 p.b.im, .int .i64 p.c.re, .int .i64 p.c.im, .int .i64 p.d.re, .int .i64 p.d.im]] w fun e w' => e = .returned (.tuple #[.agg #[.int .i64 (bkV p).a.re, .int .i64 (bkV p).a.im, .int .i64 (bkV p).b.re, .int .i64 (bkV p).b.im, .int .i64 (bkV p).c.re, .int .i64 (bkV p).c.im, .int .i64 (bkV p).d.re, .int .i64 (bkV p).d.im], .int .i64 (bkE p)]) ∧ Below w.heap.size w w' := by
  have HB := hide (fourE_bnd h0)
  have HE : Hid (bkE p = if bkOk p = true then 0 else 30) := by show _ = _; unfold bkE; rw [if_pos h0]
  have hnv := fun j => trP_nrm 1 HB.out j 4
  have HV : Hid (bkV p = if bkOk p = true then bkQ (trV 1 p) else .zero) := by
    show _ = _
    unfold bkV
    rw [HE.out]
    cases bkOk p <;> rfl
  have HK : Hid (bkOk p = (trV 1 p).l.all div4) := rfl
  have hnz : ∀ j, j < 4 → ((trV 1 p).l.getD j .zero).nrm ≤ 400000000000 := fun j hj => by
    rcases lt4 hj with rfl | rfl | rfl | rfl
    · exact hnv 0
    · exact hnv 1
    · exact hnv 2
    · exact hnv 3
  clear h0 hnv
  go_enter Tryz.func79, Tryz.ntmps79
  go_upto_region 1 with (fail)
  obtain ⟨w1, e1, hb1, hz1, k0, k1⟩ := box2 w #[.int .i64 p.a.re, .int .i64 p.a.im, .int .i64 p.b.re, .int .i64 p.b.im, .int .i64 p.c.re, .int .i64 p.c.im, .int .i64 p.d.re, .int .i64 p.d.im] #[.int .i64 0, .int .i64 0, .int .i64 0, .int .i64 0, .int .i64 0, .int .i64 0, .int .i64 0, .int .i64 0] 114 114
  rw [← e1]; clear e1
  have c0 := k0.cell
  go_wp2_with fail
  refine (rSums_any p 1 _ (.inl rfl) HB.out).mono ?_
  rintro e w3 ⟨rfl, hb3⟩
  have k13 := carryK k1 hb3
  have hb03 := below_next hb1 hb3
  clear c0 k0 k1 hb1 hb3
  obtain ⟨v, hv⟩ : ∃ v, trV 1 p = v := ⟨_, rfl⟩
  rw [hv] at HV HK hnz ⊢
  have HN := hide hnz
  clear hv hnz
  go_upto_region 2 with (fail)
  obtain ⟨w4, e4, hb4, hz4, k4⟩ := box1 w3 #[.int .i64 v.a.re, .int .i64 v.a.im, .int .i64 v.b.re, .int .i64 v.b.im, .int .i64 v.c.re, .int .i64 v.c.im, .int .i64 v.d.re, .int .i64 v.d.im] 114
  rw [← e4]; clear e4
  have k14 := carryK k13 hb4
  have hb04 := below_next hb03 hb4
  have hlt1 : w.heap.size + 1 < w3.heap.size := k13.lt
  go_wp2_with fail
  go_loopw [5] (fun i wr => ∃ k : Nat, k ≤ 4 ∧ i = .int .i64 k ∧ Blk wr (w.heap.size + 1) 114 #[.int .i64 0, .int .i64 0, .int .i64 0, .int .i64 0, .int .i64 0, .int .i64 0, .int .i64 0, .int .i64 0] ∧ Blk wr w3.heap.size 114 (qcs (bkF v k)).toArray ∧ Hid (∀ j, j < k → div4 (v.l.getD j .zero) = true) ∧ Below w.heap.size w wr) (fun i _ => 4 - (intOf i).toNat)
  case atStart => exact ⟨0, by omega, rfl, k14, k4, (fun j hj => absurd hj (Nat.not_lt_zero j)), hb04⟩
  case round =>
    rename World => wo
    clear k4 k14 hb04 k13 hb03 hb4
    obtain ⟨k, hk, rfl, k1, kv, HD, hb⟩ := hrel
    by_cases hlt : k < 4
    · have hki : (k : Int) < 4 := by omega
      have hn := HN.out k hlt
      have hup := bkF_upd v k
      have HBD := hide (bk_bad (v := v) hlt)
      have hdd : div4 (v.l.getD k .zero) = true → ∀ j, j < k + 1 → div4 (v.l.getD j .zero) = true := fun h j hj => by
        by_cases e : j = k
        · rw [e]; exact h
        · exact HD.out j (by omega)
      have HDD := hide hdd
      have hcv : bkF v k k = v.l.getD k .zero := by unfold bkF; rw [if_neg (Nat.lt_irrefl k)]
      obtain ⟨o0, o1⟩ := qcs_at hlt kv
      obtain ⟨z, hz⟩ : ∃ z, v.l.getD k .zero = z := ⟨_, rfl⟩
      rw [hcv, hz] at o0 o1
      rw [hz] at hn hup HBD HDD
      have HUP := hide hup
      have d1 : wrap64 (z.re.tdiv 4) = z.re.tdiv 4 := tdiv4_in (by unfold G.nrm at hn; omega)
      have d2 : wrap64 (z.im.tdiv 4) = z.im.tdiv 4 := tdiv4_in (by unfold G.nrm at hn; omega)
      clear hup hdd hz hn hcv
      by_cases hre : z.re.tmod 4 = 0
      · by_cases him : z.im.tmod 4 = 0
        · have HZ : Hid (div4 z = true) := by show _ = _; unfold div4; rw [decide_eq_true hre, decide_eq_true him]; rfl
          have r0 : ∀ x, (over wo.heap.size wo x).cell? ⟨w3.heap.size, k * 2, none⟩ = some (.int .i64 z.re) := fun x => ((over_below _ _ _).cell (p := ⟨w3.heap.size, k * 2, none⟩) kv.lt).trans o0
          have r1 : ∀ x, (over wo.heap.size wo x).cell? ⟨w3.heap.size, k * 2 + 1, none⟩ = some (.int .i64 z.im) := fun x => ((over_below _ _ _).cell (p := ⟨w3.heap.size, k * 2 + 1, none⟩) kv.lt).trans o1
          go_upto_region 7 with (fail)
          refine wp_region_part 13 wo.heap.size (by kernel_rfl) (by kernel_rfl) ?_; simp only [List.take_succ_cons, List.take_zero, List.drop_succ_cons, List.drop_zero]; (repeat (first | go_big_quiet_step (fail) | quiet_step (fail))); refine wpQuiet_nil ?_; rintro W ⟨x, rfl⟩
          have hbY := over_below wo.heap.size wo x
          generalize over wo.heap.size wo x = Y at hbY ⊢
          have k1Y := carryK k1 hbY
          have kvY := carryK kv hbY
          have hbwY := below_next hb hbY
          clear r0 r1 o0 o1 k1 kv hb
          have kX := qcs_set hlt (quo4 z) kvY
          rw [HUP.out] at kX
          have k1X := (k1Y.far (p := ⟨w3.heap.size, k * 2, none⟩) (by show w.heap.size + 1 ≠ w3.heap.size; omega) (.int .i64 (quo4 z).re)).far (p := ⟨w3.heap.size, k * 2 + 1, none⟩) (by show w.heap.size + 1 ≠ w3.heap.size; omega) (.int .i64 (quo4 z).im)
          have hX := below_set (below_set hbwY (show w.heap.size ≤ w3.heap.size by omega) (i := k * 2) (.int .i64 (quo4 z).re)) (show w.heap.size ≤ w3.heap.size by omega) (i := k * 2 + 1) (.int .i64 (quo4 z).im)
          obtain ⟨v0, hv0⟩ : ∃ v, Y.cell? ⟨w3.heap.size, k * 2, none⟩ = some v := ⟨_, (qcs_at hlt kvY).1⟩
          obtain ⟨v1, hv1⟩ : ∃ v, Y.cell? ⟨w3.heap.size, k * 2 + 1, none⟩ = some v := ⟨_, (qcs_at hlt kvY).2⟩
          have f5 := kvY.frozen
          have KX := hide kX
          have K1X := hide k1X
          have HX := hide hX
          clear kX k1X hX k1Y kvY hbwY
          go_wp2_with fail
          go_roundw
          case rel => exact ⟨k + 1, by omega, by go_num, K1X.out, KX.out, HDD.out HZ.out, HX.out⟩
          case measure => simp [intOf]; omega
        · have HZ : Hid (div4 z = false) := by show _ = _; unfold div4; rw [decide_eq_false him, Bool.and_false]
          have hbad := HBD.out HZ.out
          have him' : (z.im.tmod 4 != 0) = true := by simpa using him
          have E1 := HE.out
          have V1 := HV.out
          rw [HK.out, hbad] at E1 V1
          simp only [if_false, Bool.false_eq_true] at E1 V1
          have E2 := hide E1
          have V2 := hide V1
          have c1 := k1.cell
          have f1 := k1.frozen
          clear E1 V1 hbad
          go_wp2_with fail
          with_reducible refine fins8 114 hb (Nat.le_succ w.heap.size) k1 (fun X hX kX => ?_)
          have cX := kX.cell
          refine bodyPost_ret (v := .tuple #[.agg #[.int .i64 F4.zero.a.re, .int .i64 F4.zero.a.im, .int .i64 F4.zero.b.re, .int .i64 F4.zero.b.im, .int .i64 F4.zero.c.re, .int .i64 F4.zero.c.im, .int .i64 F4.zero.d.re, .int .i64 F4.zero.d.im], .int .i64 30]) (by simp [results, Tryz.results79, go_sem, cX]; exact ⟨rfl, rfl, rfl, rfl, rfl, rfl, rfl, rfl⟩) rfl ?_
          exact ⟨by rw [E2.out, V2.out], hX⟩
      · have HZ : Hid (div4 z = false) := by show _ = _; unfold div4; rw [decide_eq_false hre, Bool.false_and]
        have hbad := HBD.out HZ.out
        have hre' : (z.re.tmod 4 != 0) = true := by simpa using hre
        have E1 := HE.out
        have V1 := HV.out
        rw [HK.out, hbad] at E1 V1
        simp only [if_false, Bool.false_eq_true] at E1 V1
        have E2 := hide E1
        have V2 := hide V1
        have c1 := k1.cell
        have f1 := k1.frozen
        clear E1 V1 hbad
        go_wp2_with fail
        with_reducible refine fins8 114 hb (Nat.le_succ w.heap.size) k1 (fun X hX kX => ?_)
        have cX := kX.cell
        refine bodyPost_ret (v := .tuple #[.agg #[.int .i64 F4.zero.a.re, .int .i64 F4.zero.a.im, .int .i64 F4.zero.b.re, .int .i64 F4.zero.b.im, .int .i64 F4.zero.c.re, .int .i64 F4.zero.c.im, .int .i64 F4.zero.d.re, .int .i64 F4.zero.d.im], .int .i64 30]) (by simp [results, Tryz.results79, go_sem, cX]; exact ⟨rfl, rfl, rfl, rfl, rfl, rfl, rfl, rfl⟩) rfl ?_
        exact ⟨by rw [E2.out, V2.out], hX⟩
    · obtain rfl : k = 4 := by omega
      have hbk : bkOk p = true := by rw [HK.out]; exact bk_end fun j hj => HD.out j hj
      have E1 := HE.out
      have V1 := HV.out
      rw [hbk] at E1 V1
      simp only [if_true] at E1 V1
      have E2 := hide E1
      have V2 := hide V1
      have kv : Blk wo w3.heap.size 114 #[.int .i64 (bkQ v).a.re, .int .i64 (bkQ v).a.im, .int .i64 (bkQ v).b.re, .int .i64 (bkQ v).b.im, .int .i64 (bkQ v).c.re, .int .i64 (bkQ v).c.im, .int .i64 (bkQ v).d.re, .int .i64 (bkQ v).d.im] := kv
      have cv := kv.cell
      have c1 := k1.cell
      have f1 := k1.frozen
      clear E1 V1 hbk
      go_wp2_with fail
      with_reducible refine fins8 114 hb (Nat.le_succ w.heap.size) k1 (fun X hX kX => ?_)
      have cX := kX.cell
      refine bodyPost_ret (v := .tuple #[.agg #[.int .i64 (bkQ v).a.re, .int .i64 (bkQ v).a.im, .int .i64 (bkQ v).b.re, .int .i64 (bkQ v).b.im, .int .i64 (bkQ v).c.re, .int .i64 (bkQ v).c.im, .int .i64 (bkQ v).d.re, .int .i64 (bkQ v).d.im], .int .i64 0]) (by simp [results, Tryz.results79, go_sem, cX]) rfl ?_
      exact ⟨by rw [E2.out, V2.out], hX⟩
end Go.Proofs.YtcihiglpahhboaaGreatDoor
