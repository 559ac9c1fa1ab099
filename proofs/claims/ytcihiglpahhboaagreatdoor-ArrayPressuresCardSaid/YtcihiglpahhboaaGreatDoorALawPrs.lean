/- The law ArrayPressures: for all arguments it returns true. -/
import Derived.Test.YtcihiglpahhboaaGreatDoorAAwk
import Derived.Test.YtcihiglpahhboaaGreatDoorABksP
import Derived.Test.YtcihiglpahhboaaGreatDoorAStp
import Derived.Test.YtcihiglpahhboaaGreatDoorARPrs
import Derived.Test.YtcihiglpahhboaaGreatDoorBaseM
namespace Go.Proofs.YtcihiglpahhboaaGreatDoor
open Go.RowKit Go.Shelf
set_option maxRecDepth 100000
set_option maxHeartbeats 8000000 in
theorem lawPrs_any (A : Option Addr) (m c : Nat) (l : List Src) (s : Src) (d : Int) (w : World) (hR : Reads w w.heap.size 4 A m (srcs l)) (hV : Vr w) (hT : Tens w) :
    Calls Tryz.prog 9 #[.slice A m c, .agg #[.int .i64 s.x, .int .i64 s.y, .int .i64 s.g, .int .i64 s.p], .int .i64 d] w fun e w' => e = .returned (.bool true) ∧ Below w.heap.size w w' := by
  by_cases hs : shrt m 8 = true
  · have hm : m ≤ 17 := by unfold shrt at hs; simp at hs; omega
    have HSH := hide hs
    clear hs
    have hsq := wr_in (n := (prV l d).sq) (by have := sq_in (prV_in l d); omega)
    have hn1 : pnE s d ≠ 0 → pnV s d = 0 := fun h => by unfold pnV; rw [if_neg h]
    have hn2 : prE l d ≠ 0 → (prV l d).sq = 0 := fun h => by rw [prV_bad h]; rfl
    obtain ⟨z, hz⟩ : ∃ z, prV l d = z := ⟨_, rfl⟩
    have HPZ := hide hz
    rw [hz] at hsq hn2
    have HSQ := hide hsq
    have HN2 := hide hn2
    by_cases h1 : rng d 0 7 = 0
    · obtain ⟨k, hk, rfl⟩ := rng7 h1
      have t1 : (rng (k : Int) 0 7 == 0) = true := by rw [h1]; rfl
      have HSX : Hid (sxV (k : Int) = stx k) := by show _ = _; unfold sxV; rw [if_pos h1]; rfl
      have HSY : Hid (syV (k : Int) = sty k) := by show _ = _; unfold syV; rw [if_pos h1]; rfl
      by_cases hp : pnE s (k : Int) = 0
      · have t2 : (fnz [s.err, rng (k : Int) 0 7] == 0) = true := by rw [show fnz [s.err, rng (k : Int) 0 7] = 0 from hp]; rfl
        have HPV : Hid (pnV s (k : Int) = pth s k) := by show _ = _; unfold pnV; rw [if_pos hp]; rfl
        have hse : s.err = 0 := by
          unfold pnE at hp
          rw [fnz_zero] at hp
          exact hp _ (by simp)
        have HSE := hide (Src.err_iff.1 hse)
        have HP0 := hide hp
        by_cases hq : prE l (k : Int) = 0
        · have t3 : (fnz [lstErr l, rng (k : Int) 0 7] == 0) = true := by rw [show fnz [lstErr l, rng (k : Int) 0 7] = 0 from hq]; rfl
          have HO := hide (prE_ok hq).1
          have HZ0 : Hid (prs l k = z) := by rw [← hz]; exact (prV_ok hq).symm
          clear hp hq hsq hn1 hn2 hz hse h1
          go_enter Tryz.func9, Tryz.ntmps9
          go_upto_region 1 with (fail)
          obtain ⟨w1, e1, hb1, hz1, k0⟩ := box1 w #[.int .i64 s.x, .int .i64 s.y, .int .i64 s.g, .int .i64 s.p] 78
          rw [← e1]; clear e1
          go_wp2_with fail
          refine (awake_any _ (hV.carry hb1) (tens_below hT hb1 hT.1)).mono ?_
          rintro e w2 ⟨rfl, hb2⟩
          go_wp2_with (go_at_call 18; refine (short_any _ _ _ _ _).mono ?_; rintro e W' ⟨rfl, rfl⟩; rw [HSH.out])
          refine (Step_any (k : Int) _ (hV.carry (by repeat (first | with_reducible assumption | exact Below.refl _ _ | refine below_next (by with_reducible assumption) ?_)))).mono ?_
          rintro e w3 ⟨rfl, hb3⟩
          rw [HSX.out, HSY.out]
          have c0 := (carryK k0 (w' := w3) (by repeat (first | with_reducible assumption | exact Below.refl _ _ | refine below_next (by with_reducible assumption) ?_))).cell
          go_wp2_with fail
          clear c0
          refine (Path_any s (k : Int) _ (hV.carry (by repeat (first | with_reducible assumption | exact Below.refl _ _ | refine below_next (by with_reducible assumption) ?_)))).mono ?_
          rintro e w4 ⟨rfl, hb4⟩
          rw [HPV.out]
          go_wp2_with fail
          refine (own_any A m c l _ (carry hR (by repeat (first | with_reducible assumption | exact Below.refl _ _ | refine below_next (by with_reducible assumption) ?_))) (by omega)).mono ?_
          rintro e w5 ⟨A5, c5, rfl, hR5, hb5⟩
          go_wp2_with fail
          refine (Pressure_any A5 m c5 l (k : Int) _ hR5 (hV.carry (by repeat (first | with_reducible assumption | exact Below.refl _ _ | refine below_next (by with_reducible assumption) ?_))) (by omega)).mono ?_
          rintro e w6 ⟨rfl, hb6⟩
          rw [HPZ.out]
          go_upto_region 6 with (fail)
          obtain ⟨w7, e7, hb7, hz7, kZ⟩ := box1 w6 #[.int .i64 z.re, .int .i64 z.im] 54
          rw [← e7]; clear e7
          go_wp2_with fail
          refine (own_any A m c l _ (carry hR (by repeat (first | with_reducible assumption | exact Below.refl _ _ | refine below_next (by with_reducible assumption) ?_))) (by omega)).mono ?_
          rintro e w8 ⟨A8, c8, rfl, hR8, hb8⟩
          go_wp2_with fail
          refine (Level_any A8 m c8 l (k : Int) _ hR8 (hV.carry (by repeat (first | with_reducible assumption | exact Below.refl _ _ | refine below_next (by with_reducible assumption) ?_))) (by omega)).mono ?_
          rintro e w9 ⟨rfl, hb9⟩
          rw [HPZ.out]
          have c0 := (carryK k0 (w' := w9) (by repeat (first | with_reducible assumption | exact Below.refl _ _ | refine below_next (by with_reducible assumption) ?_))).cell
          go_wp2_with (go_at_call 41; refine (rCheckDirection_any _ _).mono ?_; rintro e W' ⟨rfl, rfl⟩)
          clear c0
          refine (rCheckSource_any s _).mono ?_
          rintro e w10 ⟨rfl, hb10⟩
          go_wp2_with ((go_at_call 22; (first | (with_reducible (refine (rFirst_any _ _ _ _ _ _ (reads2 _ _ _ _) (by omega)).mono ?_)) | (with_reducible (refine (rFirst_any _ _ _ _ _ _ (Reads.drew (reads2 _ _ _ _)) (by omega)).mono ?_))); rintro e W' ⟨rfl, rfl⟩))
          obtain ⟨w11, e11, hb11, hz11, kx1⟩ := box1 w10 #[.int .i64 s.err, .int .i64 (rng (k : Int) 0 7)] 3
          rw [← e11]; clear e11
          refine (rCheckSources_any A m c l _ (carry hR (by repeat (first | with_reducible assumption | exact Below.refl _ _ | refine below_next (by with_reducible assumption) ?_))) (by omega)).mono ?_
          rintro e w12 ⟨rfl, hb12⟩
          go_upto_region 11 with ((go_at_call 22; (first | (with_reducible (refine (rFirst_any _ _ _ _ _ _ (reads2 _ _ _ _) (by omega)).mono ?_)) | (with_reducible (refine (rFirst_any _ _ _ _ _ _ (Reads.drew (reads2 _ _ _ _)) (by omega)).mono ?_))); rintro e W' ⟨rfl, rfl⟩))
          obtain ⟨w13, e13, hb13, hz13, kx2, k22⟩ := box2 w12 #[.int .i64 (lstErr l), .int .i64 (rng (k : Int) 0 7)] #[.int .i64 0, .int .i64 0] 3 54
          rw [← e13]; clear e13
          have k013 := carryK k0 (w' := w13) (by repeat (first | with_reducible assumption | exact Below.refl _ _ | refine below_next (by with_reducible assumption) ?_))
          have kZ13 := carryK kZ (w' := w13) (by repeat (first | with_reducible assumption | exact Below.refl _ _ | refine below_next (by with_reducible assumption) ?_))
          have kZlt : w6.heap.size < w12.heap.size := (carryK kZ (w' := w12) (by repeat (first | with_reducible assumption | exact Below.refl _ _ | refine below_next (by with_reducible assumption) ?_))).lt
          have wlt : w.heap.size < w12.heap.size := (carryK k0 (w' := w12) (by repeat (first | with_reducible assumption | exact Below.refl _ _ | refine below_next (by with_reducible assumption) ?_))).lt
          have hR13 := carry hR (w' := w13) (by repeat (first | with_reducible assumption | exact Below.refl _ _ | refine below_next (by with_reducible assumption) ?_))
          have hb013 : Below w.heap.size w w13 := (by repeat (first | with_reducible assumption | exact Below.refl _ _ | refine below_next (by with_reducible assumption) ?_))
          clear kx1 kx2 hb1 hb2 hb3 hb4 hb5 hb6 hb7 hb8 hb9 hb10 hb11 hb12 hb13 hR5 hR8 k0 kZ
          go_wp2_with fail
          refine (rStep_any k hk _).mono ?_
          rintro e w14 ⟨rfl, hb14⟩
          have c0 := (carryK k013 (w' := w14) (by repeat (first | with_reducible assumption | exact Below.refl _ _ | refine below_next (by with_reducible assumption) ?_))).cell
          go_wp2_with fail
          clear c0
          refine (rPath_any s k hk HSE.out _).mono ?_
          rintro e w15 ⟨rfl, hb15⟩
          go_wp2_with fail
          refine (rPressure_any A m c l k _ hk HO.out (carry hR (by repeat (first | with_reducible assumption | exact Below.refl _ _ | refine below_next (by with_reducible assumption) ?_)))).mono ?_
          rintro e w16 ⟨rfl, hb16⟩
          rw [HZ0.out]
          have k2216 := carryK k22 (w' := w16) (by repeat (first | with_reducible assumption | exact Below.refl _ _ | refine below_next (by with_reducible assumption) ?_))
          have kZ16 := carryK kZ13 (w' := w16) (by repeat (first | with_reducible assumption | exact Below.refl _ _ | refine below_next (by with_reducible assumption) ?_))
          have l2 : w6.heap.size < w12.heap.size + 1 := by have := kZlt; omega
          have c22 := k2216.cell
          have f22 := k2216.frozen
          have hb016 : Below w.heap.size w w16 := (by repeat (first | with_reducible assumption | exact Below.refl _ _ | refine below_next (by with_reducible assumption) ?_))
          have l3 : w.heap.size ≤ w12.heap.size + 1 := by omega
          go_upto_region 17 with (fail)
          have kY : Blk _ (w12.heap.size + 1) 54 #[.int .i64 z.re, .int .i64 z.im] := blk2 (u0 := .int .i64 z.re) (u1 := .int .i64 z.im) k2216
          have kZ17 := far2 (u0 := .int .i64 z.re) (u1 := .int .i64 z.im) (g := w12.heap.size + 1) kZ16 (by omega)
          have hb17 := below2 (u0 := .int .i64 z.re) (u1 := .int .i64 z.im) hb016 l3
          clear c22 f22 k2216 kZ16 hb016 hb14 hb16 hb013 hR13 k013 kZ13 k22
          generalize World.setCell _ _ _ = V at kY kZ17 hb17 ⊢
          have q1 := reflG_eq z
          go_wp2_with fail
          refine (own_any A m c l _ (carry hR (by repeat (first | with_reducible assumption | exact Below.refl _ _ | refine below_next (by with_reducible assumption) ?_))) (by omega)).mono ?_
          rintro e w21 ⟨A21, c21, rfl, hR21, hb21⟩
          go_wp2_with fail
          refine (CheckSources_any A21 m c21 l _ hR21 (by omega)).mono ?_
          rintro e w22 ⟨rfl, hb22⟩
          go_wp2_with fail
          refine (rCheckSources_any A m c l _ (carry hR (by repeat (first | with_reducible assumption | exact Below.refl _ _ | refine below_next (by with_reducible assumption) ?_))) (by omega)).mono ?_
          rintro e w23 ⟨rfl, hb23⟩
          have cZ := (carryK kZ17 (w' := w23) (by repeat (first | with_reducible assumption | exact Below.refl _ _ | refine below_next (by with_reducible assumption) ?_))).cell
          have cY := (carryK kY (w' := w23) (by repeat (first | with_reducible assumption | exact Below.refl _ _ | refine below_next (by with_reducible assumption) ?_))).cell
          go_wp2_with (go_at_call 46; refine (number_any _ _ _ (fun h => absurd HP0.out h)).mono ?_; rintro e W' ⟨rfl, rfl⟩)
          refine (rSquare_any z _).mono ?_
          rintro e w24 ⟨rfl, hb24⟩
          rw [HSQ.out]
          go_wp2_with (go_at_call 46; refine (number_any _ _ _ HN2.out).mono ?_; rintro e W' ⟨rfl, rfl⟩)
          go_ret
          exact ⟨rfl, (by repeat (first | with_reducible assumption | exact Below.refl _ _ | refine below_next (by with_reducible assumption) ?_))⟩
        · have t3 : (fnz [lstErr l, rng (k : Int) 0 7] == 0) = false := by simpa using (show ¬ fnz [lstErr l, rng (k : Int) 0 7] = 0 from hq)
          have HZ0 : Hid (z = ⟨0, 0⟩) := by rw [← hz]; exact prV_bad hq
          clear hp hq hsq hn1 hn2 hz hse h1
          go_enter Tryz.func9, Tryz.ntmps9
          go_upto_region 1 with (fail)
          obtain ⟨w1, e1, hb1, hz1, k0⟩ := box1 w #[.int .i64 s.x, .int .i64 s.y, .int .i64 s.g, .int .i64 s.p] 78
          rw [← e1]; clear e1
          go_wp2_with fail
          refine (awake_any _ (hV.carry hb1) (tens_below hT hb1 hT.1)).mono ?_
          rintro e w2 ⟨rfl, hb2⟩
          go_wp2_with (go_at_call 18; refine (short_any _ _ _ _ _).mono ?_; rintro e W' ⟨rfl, rfl⟩; rw [HSH.out])
          refine (Step_any (k : Int) _ (hV.carry (by repeat (first | with_reducible assumption | exact Below.refl _ _ | refine below_next (by with_reducible assumption) ?_)))).mono ?_
          rintro e w3 ⟨rfl, hb3⟩
          rw [HSX.out, HSY.out]
          have c0 := (carryK k0 (w' := w3) (by repeat (first | with_reducible assumption | exact Below.refl _ _ | refine below_next (by with_reducible assumption) ?_))).cell
          go_wp2_with fail
          clear c0
          refine (Path_any s (k : Int) _ (hV.carry (by repeat (first | with_reducible assumption | exact Below.refl _ _ | refine below_next (by with_reducible assumption) ?_)))).mono ?_
          rintro e w4 ⟨rfl, hb4⟩
          rw [HPV.out]
          go_wp2_with fail
          refine (own_any A m c l _ (carry hR (by repeat (first | with_reducible assumption | exact Below.refl _ _ | refine below_next (by with_reducible assumption) ?_))) (by omega)).mono ?_
          rintro e w5 ⟨A5, c5, rfl, hR5, hb5⟩
          go_wp2_with fail
          refine (Pressure_any A5 m c5 l (k : Int) _ hR5 (hV.carry (by repeat (first | with_reducible assumption | exact Below.refl _ _ | refine below_next (by with_reducible assumption) ?_))) (by omega)).mono ?_
          rintro e w6 ⟨rfl, hb6⟩
          rw [HPZ.out]
          go_upto_region 6 with (fail)
          obtain ⟨w7, e7, hb7, hz7, kZ⟩ := box1 w6 #[.int .i64 z.re, .int .i64 z.im] 54
          rw [← e7]; clear e7
          go_wp2_with fail
          refine (own_any A m c l _ (carry hR (by repeat (first | with_reducible assumption | exact Below.refl _ _ | refine below_next (by with_reducible assumption) ?_))) (by omega)).mono ?_
          rintro e w8 ⟨A8, c8, rfl, hR8, hb8⟩
          go_wp2_with fail
          refine (Level_any A8 m c8 l (k : Int) _ hR8 (hV.carry (by repeat (first | with_reducible assumption | exact Below.refl _ _ | refine below_next (by with_reducible assumption) ?_))) (by omega)).mono ?_
          rintro e w9 ⟨rfl, hb9⟩
          rw [HPZ.out]
          have c0 := (carryK k0 (w' := w9) (by repeat (first | with_reducible assumption | exact Below.refl _ _ | refine below_next (by with_reducible assumption) ?_))).cell
          go_wp2_with (go_at_call 41; refine (rCheckDirection_any _ _).mono ?_; rintro e W' ⟨rfl, rfl⟩)
          clear c0
          refine (rCheckSource_any s _).mono ?_
          rintro e w10 ⟨rfl, hb10⟩
          go_wp2_with ((go_at_call 22; (first | (with_reducible (refine (rFirst_any _ _ _ _ _ _ (reads2 _ _ _ _) (by omega)).mono ?_)) | (with_reducible (refine (rFirst_any _ _ _ _ _ _ (Reads.drew (reads2 _ _ _ _)) (by omega)).mono ?_))); rintro e W' ⟨rfl, rfl⟩))
          obtain ⟨w11, e11, hb11, hz11, kx1⟩ := box1 w10 #[.int .i64 s.err, .int .i64 (rng (k : Int) 0 7)] 3
          rw [← e11]; clear e11
          refine (rCheckSources_any A m c l _ (carry hR (by repeat (first | with_reducible assumption | exact Below.refl _ _ | refine below_next (by with_reducible assumption) ?_))) (by omega)).mono ?_
          rintro e w12 ⟨rfl, hb12⟩
          go_upto_region 11 with ((go_at_call 22; (first | (with_reducible (refine (rFirst_any _ _ _ _ _ _ (reads2 _ _ _ _) (by omega)).mono ?_)) | (with_reducible (refine (rFirst_any _ _ _ _ _ _ (Reads.drew (reads2 _ _ _ _)) (by omega)).mono ?_))); rintro e W' ⟨rfl, rfl⟩))
          obtain ⟨w13, e13, hb13, hz13, kx2, k22⟩ := box2 w12 #[.int .i64 (lstErr l), .int .i64 (rng (k : Int) 0 7)] #[.int .i64 0, .int .i64 0] 3 54
          rw [← e13]; clear e13
          have k013 := carryK k0 (w' := w13) (by repeat (first | with_reducible assumption | exact Below.refl _ _ | refine below_next (by with_reducible assumption) ?_))
          have kZ13 := carryK kZ (w' := w13) (by repeat (first | with_reducible assumption | exact Below.refl _ _ | refine below_next (by with_reducible assumption) ?_))
          have kZlt : w6.heap.size < w12.heap.size := (carryK kZ (w' := w12) (by repeat (first | with_reducible assumption | exact Below.refl _ _ | refine below_next (by with_reducible assumption) ?_))).lt
          have wlt : w.heap.size < w12.heap.size := (carryK k0 (w' := w12) (by repeat (first | with_reducible assumption | exact Below.refl _ _ | refine below_next (by with_reducible assumption) ?_))).lt
          have hR13 := carry hR (w' := w13) (by repeat (first | with_reducible assumption | exact Below.refl _ _ | refine below_next (by with_reducible assumption) ?_))
          have hb013 : Below w.heap.size w w13 := (by repeat (first | with_reducible assumption | exact Below.refl _ _ | refine below_next (by with_reducible assumption) ?_))
          clear kx1 kx2 hb1 hb2 hb3 hb4 hb5 hb6 hb7 hb8 hb9 hb10 hb11 hb12 hb13 hR5 hR8 k0 kZ
          go_wp2_with fail
          refine (rStep_any k hk _).mono ?_
          rintro e w14 ⟨rfl, hb14⟩
          have c0 := (carryK k013 (w' := w14) (by repeat (first | with_reducible assumption | exact Below.refl _ _ | refine below_next (by with_reducible assumption) ?_))).cell
          go_wp2_with fail
          clear c0
          refine (rPath_any s k hk HSE.out _).mono ?_
          rintro e w15 ⟨rfl, hb15⟩
          have kY : Blk w13 (w12.heap.size + 1) 54 #[.int .i64 z.re, .int .i64 z.im] := by rw [HZ0.out]; exact k22
          have q1 := reflG_eq z
          clear k22
          go_wp2_with fail
          refine (own_any A m c l _ (carry hR (by repeat (first | with_reducible assumption | exact Below.refl _ _ | refine below_next (by with_reducible assumption) ?_))) (by omega)).mono ?_
          rintro e w21 ⟨A21, c21, rfl, hR21, hb21⟩
          go_wp2_with fail
          refine (CheckSources_any A21 m c21 l _ hR21 (by omega)).mono ?_
          rintro e w22 ⟨rfl, hb22⟩
          go_wp2_with fail
          refine (rCheckSources_any A m c l _ (carry hR (by repeat (first | with_reducible assumption | exact Below.refl _ _ | refine below_next (by with_reducible assumption) ?_))) (by omega)).mono ?_
          rintro e w23 ⟨rfl, hb23⟩
          have cZ := (carryK kZ13 (w' := w23) (by repeat (first | with_reducible assumption | exact Below.refl _ _ | refine below_next (by with_reducible assumption) ?_))).cell
          have cY := (carryK kY (w' := w23) (by repeat (first | with_reducible assumption | exact Below.refl _ _ | refine below_next (by with_reducible assumption) ?_))).cell
          go_wp2_with (go_at_call 46; refine (number_any _ _ _ (fun h => absurd HP0.out h)).mono ?_; rintro e W' ⟨rfl, rfl⟩)
          refine (rSquare_any z _).mono ?_
          rintro e w24 ⟨rfl, hb24⟩
          rw [HSQ.out]
          go_wp2_with (go_at_call 46; refine (number_any _ _ _ HN2.out).mono ?_; rintro e W' ⟨rfl, rfl⟩)
          go_ret
          exact ⟨rfl, (by repeat (first | with_reducible assumption | exact Below.refl _ _ | refine below_next (by with_reducible assumption) ?_))⟩
      · have t2 : (fnz [s.err, rng (k : Int) 0 7] == 0) = false := by simpa using (show ¬ fnz [s.err, rng (k : Int) 0 7] = 0 from hp)
        have HPV : Hid (pnV s (k : Int) = 0) := hn1 hp
        by_cases hq : prE l (k : Int) = 0
        · have t3 : (fnz [lstErr l, rng (k : Int) 0 7] == 0) = true := by rw [show fnz [lstErr l, rng (k : Int) 0 7] = 0 from hq]; rfl
          have HO := hide (prE_ok hq).1
          have HZ0 : Hid (prs l k = z) := by rw [← hz]; exact (prV_ok hq).symm
          clear hp hq hsq hn1 hn2 hz h1
          go_enter Tryz.func9, Tryz.ntmps9
          go_upto_region 1 with (fail)
          obtain ⟨w1, e1, hb1, hz1, k0⟩ := box1 w #[.int .i64 s.x, .int .i64 s.y, .int .i64 s.g, .int .i64 s.p] 78
          rw [← e1]; clear e1
          go_wp2_with fail
          refine (awake_any _ (hV.carry hb1) (tens_below hT hb1 hT.1)).mono ?_
          rintro e w2 ⟨rfl, hb2⟩
          go_wp2_with (go_at_call 18; refine (short_any _ _ _ _ _).mono ?_; rintro e W' ⟨rfl, rfl⟩; rw [HSH.out])
          refine (Step_any (k : Int) _ (hV.carry (by repeat (first | with_reducible assumption | exact Below.refl _ _ | refine below_next (by with_reducible assumption) ?_)))).mono ?_
          rintro e w3 ⟨rfl, hb3⟩
          rw [HSX.out, HSY.out]
          have c0 := (carryK k0 (w' := w3) (by repeat (first | with_reducible assumption | exact Below.refl _ _ | refine below_next (by with_reducible assumption) ?_))).cell
          go_wp2_with fail
          clear c0
          refine (Path_any s (k : Int) _ (hV.carry (by repeat (first | with_reducible assumption | exact Below.refl _ _ | refine below_next (by with_reducible assumption) ?_)))).mono ?_
          rintro e w4 ⟨rfl, hb4⟩
          rw [HPV.out]
          go_wp2_with fail
          refine (own_any A m c l _ (carry hR (by repeat (first | with_reducible assumption | exact Below.refl _ _ | refine below_next (by with_reducible assumption) ?_))) (by omega)).mono ?_
          rintro e w5 ⟨A5, c5, rfl, hR5, hb5⟩
          go_wp2_with fail
          refine (Pressure_any A5 m c5 l (k : Int) _ hR5 (hV.carry (by repeat (first | with_reducible assumption | exact Below.refl _ _ | refine below_next (by with_reducible assumption) ?_))) (by omega)).mono ?_
          rintro e w6 ⟨rfl, hb6⟩
          rw [HPZ.out]
          go_upto_region 6 with (fail)
          obtain ⟨w7, e7, hb7, hz7, kZ⟩ := box1 w6 #[.int .i64 z.re, .int .i64 z.im] 54
          rw [← e7]; clear e7
          go_wp2_with fail
          refine (own_any A m c l _ (carry hR (by repeat (first | with_reducible assumption | exact Below.refl _ _ | refine below_next (by with_reducible assumption) ?_))) (by omega)).mono ?_
          rintro e w8 ⟨A8, c8, rfl, hR8, hb8⟩
          go_wp2_with fail
          refine (Level_any A8 m c8 l (k : Int) _ hR8 (hV.carry (by repeat (first | with_reducible assumption | exact Below.refl _ _ | refine below_next (by with_reducible assumption) ?_))) (by omega)).mono ?_
          rintro e w9 ⟨rfl, hb9⟩
          rw [HPZ.out]
          have c0 := (carryK k0 (w' := w9) (by repeat (first | with_reducible assumption | exact Below.refl _ _ | refine below_next (by with_reducible assumption) ?_))).cell
          go_wp2_with (go_at_call 41; refine (rCheckDirection_any _ _).mono ?_; rintro e W' ⟨rfl, rfl⟩)
          clear c0
          refine (rCheckSource_any s _).mono ?_
          rintro e w10 ⟨rfl, hb10⟩
          go_wp2_with ((go_at_call 22; (first | (with_reducible (refine (rFirst_any _ _ _ _ _ _ (reads2 _ _ _ _) (by omega)).mono ?_)) | (with_reducible (refine (rFirst_any _ _ _ _ _ _ (Reads.drew (reads2 _ _ _ _)) (by omega)).mono ?_))); rintro e W' ⟨rfl, rfl⟩))
          obtain ⟨w11, e11, hb11, hz11, kx1⟩ := box1 w10 #[.int .i64 s.err, .int .i64 (rng (k : Int) 0 7)] 3
          rw [← e11]; clear e11
          refine (rCheckSources_any A m c l _ (carry hR (by repeat (first | with_reducible assumption | exact Below.refl _ _ | refine below_next (by with_reducible assumption) ?_))) (by omega)).mono ?_
          rintro e w12 ⟨rfl, hb12⟩
          go_upto_region 11 with ((go_at_call 22; (first | (with_reducible (refine (rFirst_any _ _ _ _ _ _ (reads2 _ _ _ _) (by omega)).mono ?_)) | (with_reducible (refine (rFirst_any _ _ _ _ _ _ (Reads.drew (reads2 _ _ _ _)) (by omega)).mono ?_))); rintro e W' ⟨rfl, rfl⟩))
          obtain ⟨w13, e13, hb13, hz13, kx2, k22⟩ := box2 w12 #[.int .i64 (lstErr l), .int .i64 (rng (k : Int) 0 7)] #[.int .i64 0, .int .i64 0] 3 54
          rw [← e13]; clear e13
          have k013 := carryK k0 (w' := w13) (by repeat (first | with_reducible assumption | exact Below.refl _ _ | refine below_next (by with_reducible assumption) ?_))
          have kZ13 := carryK kZ (w' := w13) (by repeat (first | with_reducible assumption | exact Below.refl _ _ | refine below_next (by with_reducible assumption) ?_))
          have kZlt : w6.heap.size < w12.heap.size := (carryK kZ (w' := w12) (by repeat (first | with_reducible assumption | exact Below.refl _ _ | refine below_next (by with_reducible assumption) ?_))).lt
          have wlt : w.heap.size < w12.heap.size := (carryK k0 (w' := w12) (by repeat (first | with_reducible assumption | exact Below.refl _ _ | refine below_next (by with_reducible assumption) ?_))).lt
          have hR13 := carry hR (w' := w13) (by repeat (first | with_reducible assumption | exact Below.refl _ _ | refine below_next (by with_reducible assumption) ?_))
          have hb013 : Below w.heap.size w w13 := (by repeat (first | with_reducible assumption | exact Below.refl _ _ | refine below_next (by with_reducible assumption) ?_))
          clear kx1 kx2 hb1 hb2 hb3 hb4 hb5 hb6 hb7 hb8 hb9 hb10 hb11 hb12 hb13 hR5 hR8 k0 kZ
          go_wp2_with fail
          refine (rStep_any k hk _).mono ?_
          rintro e w14 ⟨rfl, hb14⟩
          go_wp2_with fail
          refine (rPressure_any A m c l k _ hk HO.out (carry hR (by repeat (first | with_reducible assumption | exact Below.refl _ _ | refine below_next (by with_reducible assumption) ?_)))).mono ?_
          rintro e w16 ⟨rfl, hb16⟩
          rw [HZ0.out]
          have k2216 := carryK k22 (w' := w16) (by repeat (first | with_reducible assumption | exact Below.refl _ _ | refine below_next (by with_reducible assumption) ?_))
          have kZ16 := carryK kZ13 (w' := w16) (by repeat (first | with_reducible assumption | exact Below.refl _ _ | refine below_next (by with_reducible assumption) ?_))
          have l2 : w6.heap.size < w12.heap.size + 1 := by have := kZlt; omega
          have c22 := k2216.cell
          have f22 := k2216.frozen
          have hb016 : Below w.heap.size w w16 := (by repeat (first | with_reducible assumption | exact Below.refl _ _ | refine below_next (by with_reducible assumption) ?_))
          have l3 : w.heap.size ≤ w12.heap.size + 1 := by omega
          go_upto_region 17 with (fail)
          have kY : Blk _ (w12.heap.size + 1) 54 #[.int .i64 z.re, .int .i64 z.im] := blk2 (u0 := .int .i64 z.re) (u1 := .int .i64 z.im) k2216
          have kZ17 := far2 (u0 := .int .i64 z.re) (u1 := .int .i64 z.im) (g := w12.heap.size + 1) kZ16 (by omega)
          have hb17 := below2 (u0 := .int .i64 z.re) (u1 := .int .i64 z.im) hb016 l3
          clear c22 f22 k2216 kZ16 hb016 hb14 hb16 hb013 hR13 k013 kZ13 k22
          generalize World.setCell _ _ _ = V at kY kZ17 hb17 ⊢
          have q1 := reflG_eq z
          go_wp2_with fail
          refine (own_any A m c l _ (carry hR (by repeat (first | with_reducible assumption | exact Below.refl _ _ | refine below_next (by with_reducible assumption) ?_))) (by omega)).mono ?_
          rintro e w21 ⟨A21, c21, rfl, hR21, hb21⟩
          go_wp2_with fail
          refine (CheckSources_any A21 m c21 l _ hR21 (by omega)).mono ?_
          rintro e w22 ⟨rfl, hb22⟩
          go_wp2_with fail
          refine (rCheckSources_any A m c l _ (carry hR (by repeat (first | with_reducible assumption | exact Below.refl _ _ | refine below_next (by with_reducible assumption) ?_))) (by omega)).mono ?_
          rintro e w23 ⟨rfl, hb23⟩
          have cZ := (carryK kZ17 (w' := w23) (by repeat (first | with_reducible assumption | exact Below.refl _ _ | refine below_next (by with_reducible assumption) ?_))).cell
          have cY := (carryK kY (w' := w23) (by repeat (first | with_reducible assumption | exact Below.refl _ _ | refine below_next (by with_reducible assumption) ?_))).cell
          go_wp2_with (go_at_call 46; refine (number_any _ _ _ (fun _ => rfl)).mono ?_; rintro e W' ⟨rfl, rfl⟩)
          refine (rSquare_any z _).mono ?_
          rintro e w24 ⟨rfl, hb24⟩
          rw [HSQ.out]
          go_wp2_with (go_at_call 46; refine (number_any _ _ _ HN2.out).mono ?_; rintro e W' ⟨rfl, rfl⟩)
          go_ret
          exact ⟨rfl, (by repeat (first | with_reducible assumption | exact Below.refl _ _ | refine below_next (by with_reducible assumption) ?_))⟩
        · have t3 : (fnz [lstErr l, rng (k : Int) 0 7] == 0) = false := by simpa using (show ¬ fnz [lstErr l, rng (k : Int) 0 7] = 0 from hq)
          have HZ0 : Hid (z = ⟨0, 0⟩) := by rw [← hz]; exact prV_bad hq
          clear hp hq hsq hn1 hn2 hz h1
          go_enter Tryz.func9, Tryz.ntmps9
          go_upto_region 1 with (fail)
          obtain ⟨w1, e1, hb1, hz1, k0⟩ := box1 w #[.int .i64 s.x, .int .i64 s.y, .int .i64 s.g, .int .i64 s.p] 78
          rw [← e1]; clear e1
          go_wp2_with fail
          refine (awake_any _ (hV.carry hb1) (tens_below hT hb1 hT.1)).mono ?_
          rintro e w2 ⟨rfl, hb2⟩
          go_wp2_with (go_at_call 18; refine (short_any _ _ _ _ _).mono ?_; rintro e W' ⟨rfl, rfl⟩; rw [HSH.out])
          refine (Step_any (k : Int) _ (hV.carry (by repeat (first | with_reducible assumption | exact Below.refl _ _ | refine below_next (by with_reducible assumption) ?_)))).mono ?_
          rintro e w3 ⟨rfl, hb3⟩
          rw [HSX.out, HSY.out]
          have c0 := (carryK k0 (w' := w3) (by repeat (first | with_reducible assumption | exact Below.refl _ _ | refine below_next (by with_reducible assumption) ?_))).cell
          go_wp2_with fail
          clear c0
          refine (Path_any s (k : Int) _ (hV.carry (by repeat (first | with_reducible assumption | exact Below.refl _ _ | refine below_next (by with_reducible assumption) ?_)))).mono ?_
          rintro e w4 ⟨rfl, hb4⟩
          rw [HPV.out]
          go_wp2_with fail
          refine (own_any A m c l _ (carry hR (by repeat (first | with_reducible assumption | exact Below.refl _ _ | refine below_next (by with_reducible assumption) ?_))) (by omega)).mono ?_
          rintro e w5 ⟨A5, c5, rfl, hR5, hb5⟩
          go_wp2_with fail
          refine (Pressure_any A5 m c5 l (k : Int) _ hR5 (hV.carry (by repeat (first | with_reducible assumption | exact Below.refl _ _ | refine below_next (by with_reducible assumption) ?_))) (by omega)).mono ?_
          rintro e w6 ⟨rfl, hb6⟩
          rw [HPZ.out]
          go_upto_region 6 with (fail)
          obtain ⟨w7, e7, hb7, hz7, kZ⟩ := box1 w6 #[.int .i64 z.re, .int .i64 z.im] 54
          rw [← e7]; clear e7
          go_wp2_with fail
          refine (own_any A m c l _ (carry hR (by repeat (first | with_reducible assumption | exact Below.refl _ _ | refine below_next (by with_reducible assumption) ?_))) (by omega)).mono ?_
          rintro e w8 ⟨A8, c8, rfl, hR8, hb8⟩
          go_wp2_with fail
          refine (Level_any A8 m c8 l (k : Int) _ hR8 (hV.carry (by repeat (first | with_reducible assumption | exact Below.refl _ _ | refine below_next (by with_reducible assumption) ?_))) (by omega)).mono ?_
          rintro e w9 ⟨rfl, hb9⟩
          rw [HPZ.out]
          have c0 := (carryK k0 (w' := w9) (by repeat (first | with_reducible assumption | exact Below.refl _ _ | refine below_next (by with_reducible assumption) ?_))).cell
          go_wp2_with (go_at_call 41; refine (rCheckDirection_any _ _).mono ?_; rintro e W' ⟨rfl, rfl⟩)
          clear c0
          refine (rCheckSource_any s _).mono ?_
          rintro e w10 ⟨rfl, hb10⟩
          go_wp2_with ((go_at_call 22; (first | (with_reducible (refine (rFirst_any _ _ _ _ _ _ (reads2 _ _ _ _) (by omega)).mono ?_)) | (with_reducible (refine (rFirst_any _ _ _ _ _ _ (Reads.drew (reads2 _ _ _ _)) (by omega)).mono ?_))); rintro e W' ⟨rfl, rfl⟩))
          obtain ⟨w11, e11, hb11, hz11, kx1⟩ := box1 w10 #[.int .i64 s.err, .int .i64 (rng (k : Int) 0 7)] 3
          rw [← e11]; clear e11
          refine (rCheckSources_any A m c l _ (carry hR (by repeat (first | with_reducible assumption | exact Below.refl _ _ | refine below_next (by with_reducible assumption) ?_))) (by omega)).mono ?_
          rintro e w12 ⟨rfl, hb12⟩
          go_upto_region 11 with ((go_at_call 22; (first | (with_reducible (refine (rFirst_any _ _ _ _ _ _ (reads2 _ _ _ _) (by omega)).mono ?_)) | (with_reducible (refine (rFirst_any _ _ _ _ _ _ (Reads.drew (reads2 _ _ _ _)) (by omega)).mono ?_))); rintro e W' ⟨rfl, rfl⟩))
          obtain ⟨w13, e13, hb13, hz13, kx2, k22⟩ := box2 w12 #[.int .i64 (lstErr l), .int .i64 (rng (k : Int) 0 7)] #[.int .i64 0, .int .i64 0] 3 54
          rw [← e13]; clear e13
          have k013 := carryK k0 (w' := w13) (by repeat (first | with_reducible assumption | exact Below.refl _ _ | refine below_next (by with_reducible assumption) ?_))
          have kZ13 := carryK kZ (w' := w13) (by repeat (first | with_reducible assumption | exact Below.refl _ _ | refine below_next (by with_reducible assumption) ?_))
          have kZlt : w6.heap.size < w12.heap.size := (carryK kZ (w' := w12) (by repeat (first | with_reducible assumption | exact Below.refl _ _ | refine below_next (by with_reducible assumption) ?_))).lt
          have wlt : w.heap.size < w12.heap.size := (carryK k0 (w' := w12) (by repeat (first | with_reducible assumption | exact Below.refl _ _ | refine below_next (by with_reducible assumption) ?_))).lt
          have hR13 := carry hR (w' := w13) (by repeat (first | with_reducible assumption | exact Below.refl _ _ | refine below_next (by with_reducible assumption) ?_))
          have hb013 : Below w.heap.size w w13 := (by repeat (first | with_reducible assumption | exact Below.refl _ _ | refine below_next (by with_reducible assumption) ?_))
          clear kx1 kx2 hb1 hb2 hb3 hb4 hb5 hb6 hb7 hb8 hb9 hb10 hb11 hb12 hb13 hR5 hR8 k0 kZ
          go_wp2_with fail
          refine (rStep_any k hk _).mono ?_
          rintro e w14 ⟨rfl, hb14⟩
          have kY : Blk w13 (w12.heap.size + 1) 54 #[.int .i64 z.re, .int .i64 z.im] := by rw [HZ0.out]; exact k22
          have q1 := reflG_eq z
          clear k22
          go_wp2_with fail
          refine (own_any A m c l _ (carry hR (by repeat (first | with_reducible assumption | exact Below.refl _ _ | refine below_next (by with_reducible assumption) ?_))) (by omega)).mono ?_
          rintro e w21 ⟨A21, c21, rfl, hR21, hb21⟩
          go_wp2_with fail
          refine (CheckSources_any A21 m c21 l _ hR21 (by omega)).mono ?_
          rintro e w22 ⟨rfl, hb22⟩
          go_wp2_with fail
          refine (rCheckSources_any A m c l _ (carry hR (by repeat (first | with_reducible assumption | exact Below.refl _ _ | refine below_next (by with_reducible assumption) ?_))) (by omega)).mono ?_
          rintro e w23 ⟨rfl, hb23⟩
          have cZ := (carryK kZ13 (w' := w23) (by repeat (first | with_reducible assumption | exact Below.refl _ _ | refine below_next (by with_reducible assumption) ?_))).cell
          have cY := (carryK kY (w' := w23) (by repeat (first | with_reducible assumption | exact Below.refl _ _ | refine below_next (by with_reducible assumption) ?_))).cell
          go_wp2_with (go_at_call 46; refine (number_any _ _ _ (fun _ => rfl)).mono ?_; rintro e W' ⟨rfl, rfl⟩)
          refine (rSquare_any z _).mono ?_
          rintro e w24 ⟨rfl, hb24⟩
          rw [HSQ.out]
          go_wp2_with (go_at_call 46; refine (number_any _ _ _ HN2.out).mono ?_; rintro e W' ⟨rfl, rfl⟩)
          go_ret
          exact ⟨rfl, (by repeat (first | with_reducible assumption | exact Below.refl _ _ | refine below_next (by with_reducible assumption) ?_))⟩
    · have hp : pnE s d ≠ 0 := fun h => by
        unfold pnE at h
        rw [fnz_zero] at h
        exact h1 (h _ (by simp))
      have hq : prE l d ≠ 0 := fun h => by
        unfold prE at h
        rw [fnz_zero] at h
        exact h1 (h _ (by simp))
      have t1 : (rng d 0 7 == 0) = false := by simpa using h1
      have t2 : (fnz [s.err, rng d 0 7] == 0) = false := by simpa using (show ¬ fnz [s.err, rng d 0 7] = 0 from hp)
      have t3 : (fnz [lstErr l, rng d 0 7] == 0) = false := by simpa using (show ¬ fnz [lstErr l, rng d 0 7] = 0 from hq)
      have HSX : Hid (sxV d = 0) := by show _ = _; unfold sxV; rw [if_neg h1]
      have HSY : Hid (syV d = 0) := by show _ = _; unfold syV; rw [if_neg h1]
      have HPV : Hid (pnV s d = 0) := hn1 hp
      have HZ0 : Hid (z = ⟨0, 0⟩) := by rw [← hz]; exact prV_bad hq
      clear h1 hp hq hsq hn1 hn2 hz
      go_enter Tryz.func9, Tryz.ntmps9
      go_upto_region 1 with (fail)
      obtain ⟨w1, e1, hb1, hz1, k0⟩ := box1 w #[.int .i64 s.x, .int .i64 s.y, .int .i64 s.g, .int .i64 s.p] 78
      rw [← e1]; clear e1
      go_wp2_with fail
      refine (awake_any _ (hV.carry hb1) (tens_below hT hb1 hT.1)).mono ?_
      rintro e w2 ⟨rfl, hb2⟩
      go_wp2_with (go_at_call 18; refine (short_any _ _ _ _ _).mono ?_; rintro e W' ⟨rfl, rfl⟩; rw [HSH.out])
      refine (Step_any d _ (hV.carry (by repeat (first | with_reducible assumption | exact Below.refl _ _ | refine below_next (by with_reducible assumption) ?_)))).mono ?_
      rintro e w3 ⟨rfl, hb3⟩
      rw [HSX.out, HSY.out]
      have c0 := (carryK k0 (w' := w3) (by repeat (first | with_reducible assumption | exact Below.refl _ _ | refine below_next (by with_reducible assumption) ?_))).cell
      go_wp2_with fail
      clear c0
      refine (Path_any s d _ (hV.carry (by repeat (first | with_reducible assumption | exact Below.refl _ _ | refine below_next (by with_reducible assumption) ?_)))).mono ?_
      rintro e w4 ⟨rfl, hb4⟩
      rw [HPV.out]
      go_wp2_with fail
      refine (own_any A m c l _ (carry hR (by repeat (first | with_reducible assumption | exact Below.refl _ _ | refine below_next (by with_reducible assumption) ?_))) (by omega)).mono ?_
      rintro e w5 ⟨A5, c5, rfl, hR5, hb5⟩
      go_wp2_with fail
      refine (Pressure_any A5 m c5 l d _ hR5 (hV.carry (by repeat (first | with_reducible assumption | exact Below.refl _ _ | refine below_next (by with_reducible assumption) ?_))) (by omega)).mono ?_
      rintro e w6 ⟨rfl, hb6⟩
      rw [HPZ.out]
      go_upto_region 6 with (fail)
      obtain ⟨w7, e7, hb7, hz7, kZ⟩ := box1 w6 #[.int .i64 z.re, .int .i64 z.im] 54
      rw [← e7]; clear e7
      go_wp2_with fail
      refine (own_any A m c l _ (carry hR (by repeat (first | with_reducible assumption | exact Below.refl _ _ | refine below_next (by with_reducible assumption) ?_))) (by omega)).mono ?_
      rintro e w8 ⟨A8, c8, rfl, hR8, hb8⟩
      go_wp2_with fail
      refine (Level_any A8 m c8 l d _ hR8 (hV.carry (by repeat (first | with_reducible assumption | exact Below.refl _ _ | refine below_next (by with_reducible assumption) ?_))) (by omega)).mono ?_
      rintro e w9 ⟨rfl, hb9⟩
      rw [HPZ.out]
      have c0 := (carryK k0 (w' := w9) (by repeat (first | with_reducible assumption | exact Below.refl _ _ | refine below_next (by with_reducible assumption) ?_))).cell
      go_wp2_with (go_at_call 41; refine (rCheckDirection_any _ _).mono ?_; rintro e W' ⟨rfl, rfl⟩)
      clear c0
      refine (rCheckSource_any s _).mono ?_
      rintro e w10 ⟨rfl, hb10⟩
      go_wp2_with ((go_at_call 22; (first | (with_reducible (refine (rFirst_any _ _ _ _ _ _ (reads2 _ _ _ _) (by omega)).mono ?_)) | (with_reducible (refine (rFirst_any _ _ _ _ _ _ (Reads.drew (reads2 _ _ _ _)) (by omega)).mono ?_))); rintro e W' ⟨rfl, rfl⟩))
      obtain ⟨w11, e11, hb11, hz11, kx1⟩ := box1 w10 #[.int .i64 s.err, .int .i64 (rng d 0 7)] 3
      rw [← e11]; clear e11
      refine (rCheckSources_any A m c l _ (carry hR (by repeat (first | with_reducible assumption | exact Below.refl _ _ | refine below_next (by with_reducible assumption) ?_))) (by omega)).mono ?_
      rintro e w12 ⟨rfl, hb12⟩
      go_upto_region 11 with ((go_at_call 22; (first | (with_reducible (refine (rFirst_any _ _ _ _ _ _ (reads2 _ _ _ _) (by omega)).mono ?_)) | (with_reducible (refine (rFirst_any _ _ _ _ _ _ (Reads.drew (reads2 _ _ _ _)) (by omega)).mono ?_))); rintro e W' ⟨rfl, rfl⟩))
      obtain ⟨w13, e13, hb13, hz13, kx2, k22⟩ := box2 w12 #[.int .i64 (lstErr l), .int .i64 (rng d 0 7)] #[.int .i64 0, .int .i64 0] 3 54
      rw [← e13]; clear e13
      have k013 := carryK k0 (w' := w13) (by repeat (first | with_reducible assumption | exact Below.refl _ _ | refine below_next (by with_reducible assumption) ?_))
      have kZ13 := carryK kZ (w' := w13) (by repeat (first | with_reducible assumption | exact Below.refl _ _ | refine below_next (by with_reducible assumption) ?_))
      have kZlt : w6.heap.size < w12.heap.size := (carryK kZ (w' := w12) (by repeat (first | with_reducible assumption | exact Below.refl _ _ | refine below_next (by with_reducible assumption) ?_))).lt
      have wlt : w.heap.size < w12.heap.size := (carryK k0 (w' := w12) (by repeat (first | with_reducible assumption | exact Below.refl _ _ | refine below_next (by with_reducible assumption) ?_))).lt
      have hR13 := carry hR (w' := w13) (by repeat (first | with_reducible assumption | exact Below.refl _ _ | refine below_next (by with_reducible assumption) ?_))
      have hb013 : Below w.heap.size w w13 := (by repeat (first | with_reducible assumption | exact Below.refl _ _ | refine below_next (by with_reducible assumption) ?_))
      clear kx1 kx2 hb1 hb2 hb3 hb4 hb5 hb6 hb7 hb8 hb9 hb10 hb11 hb12 hb13 hR5 hR8 k0 kZ
      have kY : Blk w13 (w12.heap.size + 1) 54 #[.int .i64 z.re, .int .i64 z.im] := by rw [HZ0.out]; exact k22
      have q1 := reflG_eq z
      clear k22
      go_wp2_with fail
      refine (own_any A m c l _ (carry hR (by repeat (first | with_reducible assumption | exact Below.refl _ _ | refine below_next (by with_reducible assumption) ?_))) (by omega)).mono ?_
      rintro e w21 ⟨A21, c21, rfl, hR21, hb21⟩
      go_wp2_with fail
      refine (CheckSources_any A21 m c21 l _ hR21 (by omega)).mono ?_
      rintro e w22 ⟨rfl, hb22⟩
      go_wp2_with fail
      refine (rCheckSources_any A m c l _ (carry hR (by repeat (first | with_reducible assumption | exact Below.refl _ _ | refine below_next (by with_reducible assumption) ?_))) (by omega)).mono ?_
      rintro e w23 ⟨rfl, hb23⟩
      have cZ := (carryK kZ13 (w' := w23) (by repeat (first | with_reducible assumption | exact Below.refl _ _ | refine below_next (by with_reducible assumption) ?_))).cell
      have cY := (carryK kY (w' := w23) (by repeat (first | with_reducible assumption | exact Below.refl _ _ | refine below_next (by with_reducible assumption) ?_))).cell
      go_wp2_with (go_at_call 46; refine (number_any _ _ _ (fun _ => rfl)).mono ?_; rintro e W' ⟨rfl, rfl⟩)
      refine (rSquare_any z _).mono ?_
      rintro e w24 ⟨rfl, hb24⟩
      rw [HSQ.out]
      go_wp2_with (go_at_call 46; refine (number_any _ _ _ HN2.out).mono ?_; rintro e W' ⟨rfl, rfl⟩)
      go_ret
      exact ⟨rfl, (by repeat (first | with_reducible assumption | exact Below.refl _ _ | refine below_next (by with_reducible assumption) ?_))⟩
  · have hs : shrt m 8 = false := by simpa using hs
    go_enter Tryz.func9, Tryz.ntmps9
    go_upto_region 1 with (fail)
    obtain ⟨w1, e1, hb1, hz1, k0⟩ := box1 w #[.int .i64 s.x, .int .i64 s.y, .int .i64 s.g, .int .i64 s.p] 78
    rw [← e1]; clear e1
    go_wp2_with fail
    refine (awake_any _ (hV.carry hb1) (tens_below hT hb1 hT.1)).mono ?_
    rintro e w2 ⟨rfl, hb2⟩
    go_wp2_with (go_at_call 18; refine (short_any _ _ _ _ _).mono ?_; rintro e W' ⟨rfl, rfl⟩; rw [hs])
    refine (awake_any _ (hV.carry (by repeat (first | with_reducible assumption | exact Below.refl _ _ | refine below_next (by with_reducible assumption) ?_))) (tens_below hT (show Below w.heap.size w w2 from (by repeat (first | with_reducible assumption | exact Below.refl _ _ | refine below_next (by with_reducible assumption) ?_))) hT.1)).mono ?_
    rintro e w3 ⟨rfl, hb3⟩
    go_wp2_with fail
    go_ret
    exact ⟨rfl, (by repeat (first | with_reducible assumption | exact Below.refl _ _ | refine below_next (by with_reducible assumption) ?_))⟩
end Go.Proofs.YtcihiglpahhboaaGreatDoor
