/- The law NetworkMatrices. -/
import Derived.Test.YtnndaipnfniciaaGreatDoorNAwk
import Derived.Test.YtnndaipnfniciaaGreatDoorNBad
import Derived.Test.YtnndaipnfniciaaGreatDoorNEqs
import Derived.Test.YtnndaipnfniciaaGreatDoorBaseR
import Derived.Test.YtnndaipnfniciaaGreatDoorNLiftN
import Derived.Deep.DeepCutAuto
namespace Go.Proofs.YtnndaipnfniciaaGreatDoor
open Go.RowKit Go.Shelf
set_option maxRecDepth 100000
theorem short_n {l : List El} {w : World} {A : Option Addr} {n : Nat} (hR : Reads w w.heap.size 3 A n (els l)) (h : shortB l = true) : n ≤ 6 := by
  unfold shortB at h
  rw [Bool.and_eq_true, decide_eq_true_eq] at h
  have := els_reads_len hR
  omega
set_option maxHeartbeats 4000000 in
theorem lawMat_long (A : Option Addr) (n c : Nat) (l : List El) (f : Int) (w : World) (hV : VarsN w) (hR : Reads w w.heap.size 3 A n (els l)) (hs : shortB l = false) :
    Calls Tryz.prog 6 #[.slice A n c, .int .i64 f] w fun e w' => e = .returned (.bool true) ∧ Below w.heap.size w w' := by
  go_enter Tryz.func6, Tryz.ntmps6
  go_wp2_with fail
  refine (rShort_any A n c l _ hR).mono ?_
  rintro e w1 ⟨rfl, hb1⟩
  rw [hs]
  clear hs
  go_wp2_with fail
  refine (awake_any _ (hV.con.carry (by repeat (first | with_reducible assumption | exact Below.refl _ _ | refine below_next (by with_reducible assumption) ?_))) (hV.tur.carry (by repeat (first | with_reducible assumption | exact Below.refl _ _ | refine below_next (by with_reducible assumption) ?_))) (hV.ten.carry (by repeat (first | with_reducible assumption | exact Below.refl _ _ | refine below_next (by with_reducible assumption) ?_)))).mono ?_
  rintro e wz ⟨rfl, hbz⟩
  go_wp2_with fail
  go_ret
  exact ⟨rfl, (by repeat (first | with_reducible assumption | exact Below.refl _ _ | refine below_next (by with_reducible assumption) ?_))⟩
set_option maxHeartbeats 8000000 in
theorem lawMat_bad (A : Option Addr) (n c : Nat) (l : List El) (f : Int) (w : World) (hV : VarsN w) (hR : Reads w w.heap.size 3 A n (els l)) (hs : shortB l = true) (he : ¬ atErr l f = 0) :
    Calls Tryz.prog 6 #[.slice A n c, .int .i64 f] w fun e w' => e = .returned (.bool true) ∧ Below w.heap.size w w' := by
  have hn6 := short_n hR hs
  have HS := hide hs
  obtain ⟨E, hE⟩ : ∃ E, atErr l f = E := ⟨_, rfl⟩
  have HB := hide he
  have HE := hide hE
  have t0 : (E == 0) = false := by rw [← hE]; simpa using he
  clear hs he hE
  go_enter Tryz.func6, Tryz.ntmps6
  go_wp2_with fail
  refine (rShort_any A n c l _ hR).mono ?_
  rintro e w1 ⟨rfl, hb1⟩
  rw [HS.out]
  go_wp2_with fail
  refine (ladder_lad A n c l _ (carry hR (by repeat (first | with_reducible assumption | exact Below.refl _ _ | refine below_next (by with_reducible assumption) ?_))) (by omega)).mono ?_
  rintro e w2 ⟨A2, cA2, rfl, rA2, hbw2⟩
  go_wp2_with fail
  refine (Chain_bad l f A2 n cA2 _ HB.out (by omega) rA2).mono ?_
  rintro e w3 ⟨rfl, hb3⟩
  go_upto_region 4 with (fail)
  obtain ⟨w4, e4, hb4, hz4, kM⟩ := box1 w3 #[.int .i64 0, .int .i64 0, .int .i64 0, .int .i64 0, .int .i64 0, .int .i64 0, .int .i64 0, .int .i64 0] 73
  rw [← e4]; clear e4
  go_wp2_with fail
  refine (ladder_lad A n c l _ (carry hR (by repeat (first | with_reducible assumption | exact Below.refl _ _ | refine below_next (by with_reducible assumption) ?_))) (by omega)).mono ?_
  rintro e w5 ⟨A5, cA5, rfl, rA5, hbw5⟩
  go_wp2_with fail
  refine (Divisor_bad l f A5 n cA5 _ HB.out (by omega) rA5).mono ?_
  rintro e w6 ⟨rfl, hb6⟩
  go_upto_region 5 with (fail)
  obtain ⟨w7, e7, hb7, hz7, kD⟩ := box1 w6 #[.int .i64 0, .int .i64 0] 23
  rw [← e7]; clear e7
  go_wp2_with fail
  refine (rCheckAt_any A n c l f _ (carry hR (by repeat (first | with_reducible assumption | exact Below.refl _ _ | refine below_next (by with_reducible assumption) ?_)))).mono ?_
  rintro e w8 ⟨rfl, hb8⟩
  rw [HE.out]
  go_upto_region 8 with (fail)
  obtain ⟨w9, e9, hb9, hz9, kC, kV⟩ := box2 w8 #[.int .i64 0, .int .i64 0, .int .i64 0, .int .i64 0, .int .i64 0, .int .i64 0, .int .i64 0, .int .i64 0] #[.int .i64 0, .int .i64 0] 78 23
  rw [← e9]; clear e9
  have kC2 := kC
  have kV2 := kV
  have qM : ∀ W, (binOp .eql 78 (.agg #[.int .i64 0, .int .i64 0, .int .i64 0, .int .i64 0, .int .i64 0, .int .i64 0, .int .i64 0, .int .i64 0]) (.agg #[.int .i64 0, .int .i64 0, .int .i64 0, .int .i64 0, .int .i64 0, .int .i64 0, .int .i64 0, .int .i64 0])).run Tryz.prog W = .ok (.bool true) W := fun W => reflMaR_eq ⟨⟨0, 0⟩, ⟨0, 0⟩, ⟨0, 0⟩, ⟨0, 0⟩⟩ W
  have qG : ∀ W, (binOp .eql 23 (.agg #[.int .i64 0, .int .i64 0]) (.agg #[.int .i64 0, .int .i64 0])).run Tryz.prog W = .ok (.bool true) W := fun W => reflG_eq ⟨0, 0⟩ W
  go_wp2_with fail
  refine (nKinds_any _).mono ?_
  rintro e w20 ⟨g20, rfl, r20, hb20⟩
  go_wp2_with fail
  refine (rKinds_any _).mono ?_
  rintro e w21 ⟨g21, rfl, r21, hb21⟩
  go_wp2_with fail
  refine (sameWords_true _ _ 4 _ _ _ _ (carry r20 (by repeat (first | with_reducible assumption | exact Below.refl _ _ | refine below_next (by with_reducible assumption) ?_))) r21 (by omega)).mono ?_
  rintro e w22 ⟨rfl, hb22⟩
  go_wp2_with fail
  refine (ladder_lad A n c l _ (carry hR (by repeat (first | with_reducible assumption | exact Below.refl _ _ | refine below_next (by with_reducible assumption) ?_))) (by omega)).mono ?_
  rintro e w23 ⟨A23, cA23, rfl, rA23, hbw23⟩
  go_wp2_with fail
  refine (checkLadder_any A23 n cA23 l _ rA23 (by omega)).mono ?_
  rintro e w24 ⟨rfl, hb24⟩
  go_wp2_with fail
  refine (rCheckLadder_all A n c l _ (carry hR (by repeat (first | with_reducible assumption | exact Below.refl _ _ | refine below_next (by with_reducible assumption) ?_)))).mono ?_
  rintro e w25 ⟨rfl, hb25⟩
  have cM := (carryK (w' := w25) kM (by repeat (first | with_reducible assumption | exact Below.refl _ _ | refine below_next (by with_reducible assumption) ?_))).cell
  have cD := (carryK (w' := w25) kD (by repeat (first | with_reducible assumption | exact Below.refl _ _ | refine below_next (by with_reducible assumption) ?_))).cell
  have cC := (carryK (w' := w25) kC2 (by repeat (first | with_reducible assumption | exact Below.refl _ _ | refine below_next (by with_reducible assumption) ?_))).cell
  have cV := (carryK (w' := w25) kV2 (by repeat (first | with_reducible assumption | exact Below.refl _ _ | refine below_next (by with_reducible assumption) ?_))).cell
  go_wp2_with fail
  clear cM cD cC cV
  refine (awake_any _ (hV.con.carry (by repeat (first | with_reducible assumption | exact Below.refl _ _ | refine below_next (by with_reducible assumption) ?_))) (hV.tur.carry (by repeat (first | with_reducible assumption | exact Below.refl _ _ | refine below_next (by with_reducible assumption) ?_))) (hV.ten.carry (by repeat (first | with_reducible assumption | exact Below.refl _ _ | refine below_next (by with_reducible assumption) ?_)))).mono ?_
  rintro e wz ⟨rfl, hbz⟩
  go_wp2_with fail
  go_ret
  exact ⟨rfl, (by repeat (first | with_reducible assumption | exact Below.refl _ _ | refine below_next (by with_reducible assumption) ?_))⟩
set_option maxHeartbeats 8000000 in
theorem lawMat_good (A : Option Addr) (n c : Nat) (l : List El) (f : Int) (w : World) (hV : VarsN w) (hR : Reads w w.heap.size 3 A n (els l)) (hs : shortB l = true) (he : atErr l f = 0) :
    Calls Tryz.prog 6 #[.slice A n c, .int .i64 f] w fun e w' => e = .returned (.bool true) ∧ Below w.heap.size w w' := by
  have hn6 := short_n hR hs
  have HS := hide hs
  have HB := hide he
  have HE := hide he
  obtain ⟨hl, f1, f8⟩ := at_zero he
  have HOK := hide hl
  obtain ⟨M, hM⟩ : ∃ M, chn f .id l = M := ⟨_, rfl⟩
  obtain ⟨D, hD⟩ : ∃ D, dvs f .one l = D := ⟨_, rfl⟩
  have HCH : Hid (∀ A c w, Con w → Reads w w.heap.size 3 A n (els l) → Calls Tryz.prog 38 #[.slice A n c, .int .i64 f] w fun e w' => e = .returned (.tuple #[.agg #[.int .i64 M.a.re, .int .i64 M.a.im, .int .i64 M.b.re, .int .i64 M.b.im, .int .i64 M.c.re, .int .i64 M.c.im, .int .i64 M.d.re, .int .i64 M.d.im], .int .i64 0]) ∧ Below w.heap.size w w') := fun A c w hC hR => by rw [← hM]; exact Chain_ok l f A n c w hC he (by omega) hR
  have HDV : Hid (∀ A c w, Con w → Reads w w.heap.size 3 A n (els l) → Calls Tryz.prog 39 #[.slice A n c, .int .i64 f] w fun e w' => e = .returned (.tuple #[.agg #[.int .i64 D.re, .int .i64 D.im], .int .i64 0]) ∧ Below w.heap.size w w') := fun A c w hC hR => by rw [← hD]; exact Divisor_ok l f A n c w hC he (by omega) hR
  have HRC : Hid (∀ w, Reads w w.heap.size 3 A n (els l) → Calls Tryz.prog 41 #[.slice A n c, .int .i64 f] w fun e w' => e = .returned (.agg #[.int .i64 M.a.re, .int .i64 M.a.im, .int .i64 M.b.re, .int .i64 M.b.im, .int .i64 M.c.re, .int .i64 M.c.im, .int .i64 M.d.re, .int .i64 M.d.im]) ∧ Below w.heap.size w w') := fun w hR => by rw [← hM]; exact rChain_ok l f A n c w hl f1 f8 hR
  have HRD : Hid (∀ w, Reads w w.heap.size 3 A n (els l) → Calls Tryz.prog 42 #[.slice A n c, .int .i64 f] w fun e w' => e = .returned (.agg #[.int .i64 D.re, .int .i64 D.im]) ∧ Below w.heap.size w w') := fun w hR => by rw [← hD]; exact rDivisor_ok l f A n c w hl f1 f8 hR
  have t0 : ((0 : Int) == 0) = true := rfl
  clear hs he hl hM hD
  go_enter Tryz.func6, Tryz.ntmps6
  go_wp2_with fail
  refine (rShort_any A n c l _ hR).mono ?_
  rintro e w1 ⟨rfl, hb1⟩
  rw [HS.out]
  go_wp2_with fail
  refine (ladder_lad A n c l _ (carry hR (by repeat (first | with_reducible assumption | exact Below.refl _ _ | refine below_next (by with_reducible assumption) ?_))) (by omega)).mono ?_
  rintro e w2 ⟨A2, cA2, rfl, rA2, hbw2⟩
  go_wp2_with fail
  refine (HCH.out A2 cA2 _ (hV.con.carry (by repeat (first | with_reducible assumption | exact Below.refl _ _ | refine below_next (by with_reducible assumption) ?_))) rA2).mono ?_
  rintro e w3 ⟨rfl, hb3⟩
  go_upto_region 4 with (fail)
  obtain ⟨w4, e4, hb4, hz4, kM⟩ := box1 w3 #[.int .i64 M.a.re, .int .i64 M.a.im, .int .i64 M.b.re, .int .i64 M.b.im, .int .i64 M.c.re, .int .i64 M.c.im, .int .i64 M.d.re, .int .i64 M.d.im] 73
  rw [← e4]; clear e4
  go_wp2_with fail
  refine (ladder_lad A n c l _ (carry hR (by repeat (first | with_reducible assumption | exact Below.refl _ _ | refine below_next (by with_reducible assumption) ?_))) (by omega)).mono ?_
  rintro e w5 ⟨A5, cA5, rfl, rA5, hbw5⟩
  go_wp2_with fail
  refine (HDV.out A5 cA5 _ (hV.con.carry (by repeat (first | with_reducible assumption | exact Below.refl _ _ | refine below_next (by with_reducible assumption) ?_))) rA5).mono ?_
  rintro e w6 ⟨rfl, hb6⟩
  go_upto_region 5 with (fail)
  obtain ⟨w7, e7, hb7, hz7, kD⟩ := box1 w6 #[.int .i64 D.re, .int .i64 D.im] 23
  rw [← e7]; clear e7
  go_wp2_with fail
  refine (rCheckAt_any A n c l f _ (carry hR (by repeat (first | with_reducible assumption | exact Below.refl _ _ | refine below_next (by with_reducible assumption) ?_)))).mono ?_
  rintro e w8 ⟨rfl, hb8⟩
  rw [HE.out]
  go_upto_region 8 with (fail)
  obtain ⟨w9, e9, hb9, hz9, kC, kV⟩ := box2 w8 #[.int .i64 0, .int .i64 0, .int .i64 0, .int .i64 0, .int .i64 0, .int .i64 0, .int .i64 0, .int .i64 0] #[.int .i64 0, .int .i64 0] 78 23
  rw [← e9]; clear e9
  go_wp2_with fail
  refine (HRC.out _ (carry hR (by repeat (first | with_reducible assumption | exact Below.refl _ _ | refine below_next (by with_reducible assumption) ?_)))).mono ?_
  rintro e w10 ⟨rfl, hb10⟩
  go_wp2_with fail
  refine (HRD.out _ (carry hR (by repeat (first | with_reducible assumption | exact Below.refl _ _ | refine below_next (by with_reducible assumption) ?_)))).mono ?_
  rintro e w11 ⟨rfl, hb11⟩
  have kC11 := carryK (w' := w11) kC (by repeat (first | with_reducible assumption | exact Below.refl _ _ | refine below_next (by with_reducible assumption) ?_))
  have kV11 := carryK (w' := w11) kV (by repeat (first | with_reducible assumption | exact Below.refl _ _ | refine below_next (by with_reducible assumption) ?_))
  have hb811 : Below w8.heap.size w8 w11 := (by repeat (first | with_reducible assumption | exact Below.refl _ _ | refine below_next (by with_reducible assumption) ?_))
  obtain ⟨X, eX, kX, _, hfX, hX⟩ := set8 w11 w8.heap.size 78 _ _ _ _ _ _ _ _ (.int .i64 M.a.re) (.int .i64 M.a.im) (.int .i64 M.b.re) (.int .i64 M.b.im) (.int .i64 M.c.re) (.int .i64 M.c.im) (.int .i64 M.d.re) (.int .i64 M.d.im) kC11
  have kVX := hfX _ _ _ (by omega) kV11
  have kV2 := blk2 (u0 := .int .i64 D.re) (u1 := .int .i64 D.im) kVX
  have kC2 := far2 (g := w8.heap.size + 1) (u0 := .int .i64 D.re) (u1 := .int .i64 D.im) kX (by omega)
  have hb12 := below2 (u0 := .int .i64 D.re) (u1 := .int .i64 D.im) (hX _ _ (Nat.le_refl _) hb811) (show w8.heap.size ≤ w8.heap.size + 1 by omega)
  have cC := kC11.cell
  have fC := kC11.frozen
  have cV := kV11.cell
  have fV := kV11.frozen
  clear hfX hX kVX kX
  go_upto_region 10 with (fail)
  rw [← eX]
  obtain ⟨w12, e12⟩ : ∃ W, W = (X.setCell ⟨w8.heap.size + 1, 0, none⟩ (.int .i64 D.re)).setCell ⟨w8.heap.size + 1, 1, none⟩ (.int .i64 D.im) := ⟨_, rfl⟩
  rw [← e12] at kV2 kC2 hb12 ⊢
  clear e12 eX cC fC cV fV kC11 kV11 kC kV hb811 hb9 hb10 hb11
  have qM := fun W => reflMaR_eq M W
  have qG := fun W => reflG_eq D W
  go_wp2_with fail
  refine (nKinds_any _).mono ?_
  rintro e w20 ⟨g20, rfl, r20, hb20⟩
  go_wp2_with fail
  refine (rKinds_any _).mono ?_
  rintro e w21 ⟨g21, rfl, r21, hb21⟩
  go_wp2_with fail
  refine (sameWords_true _ _ 4 _ _ _ _ (carry r20 (by repeat (first | with_reducible assumption | exact Below.refl _ _ | refine below_next (by with_reducible assumption) ?_))) r21 (by omega)).mono ?_
  rintro e w22 ⟨rfl, hb22⟩
  go_wp2_with fail
  refine (ladder_lad A n c l _ (carry hR (by repeat (first | with_reducible assumption | exact Below.refl _ _ | refine below_next (by with_reducible assumption) ?_))) (by omega)).mono ?_
  rintro e w23 ⟨A23, cA23, rfl, rA23, hbw23⟩
  go_wp2_with fail
  refine (checkLadder_any A23 n cA23 l _ rA23 (by omega)).mono ?_
  rintro e w24 ⟨rfl, hb24⟩
  go_wp2_with fail
  refine (rCheckLadder_all A n c l _ (carry hR (by repeat (first | with_reducible assumption | exact Below.refl _ _ | refine below_next (by with_reducible assumption) ?_)))).mono ?_
  rintro e w25 ⟨rfl, hb25⟩
  have cM := (carryK (w' := w25) kM (by repeat (first | with_reducible assumption | exact Below.refl _ _ | refine below_next (by with_reducible assumption) ?_))).cell
  have cD := (carryK (w' := w25) kD (by repeat (first | with_reducible assumption | exact Below.refl _ _ | refine below_next (by with_reducible assumption) ?_))).cell
  have cC := (carryK (w' := w25) kC2 (by repeat (first | with_reducible assumption | exact Below.refl _ _ | refine below_next (by with_reducible assumption) ?_))).cell
  have cV := (carryK (w' := w25) kV2 (by repeat (first | with_reducible assumption | exact Below.refl _ _ | refine below_next (by with_reducible assumption) ?_))).cell
  go_wp2_with fail
  clear cM cD cC cV
  refine (awake_any _ (hV.con.carry (by repeat (first | with_reducible assumption | exact Below.refl _ _ | refine below_next (by with_reducible assumption) ?_))) (hV.tur.carry (by repeat (first | with_reducible assumption | exact Below.refl _ _ | refine below_next (by with_reducible assumption) ?_))) (hV.ten.carry (by repeat (first | with_reducible assumption | exact Below.refl _ _ | refine below_next (by with_reducible assumption) ?_)))).mono ?_
  rintro e wz ⟨rfl, hbz⟩
  go_wp2_with fail
  go_ret
  exact ⟨rfl, (by repeat (first | with_reducible assumption | exact Below.refl _ _ | refine below_next (by with_reducible assumption) ?_))⟩
theorem lawMat_any (A : Option Addr) (n c : Nat) (l : List El) (f : Int) (w : World) (hV : VarsN w) (hR : Reads w w.heap.size 3 A n (els l)) :
    Calls Tryz.prog 6 #[.slice A n c, .int .i64 f] w fun e w' => e = .returned (.bool true) ∧ Below w.heap.size w w' := by
  by_cases hs : shortB l = true
  · by_cases he : atErr l f = 0
    · exact lawMat_good A n c l f w hV hR hs he
    · exact lawMat_bad A n c l f w hV hR hs he
  · exact lawMat_long A n c l f w hV hR (by simpa using hs)
end Go.Proofs.YtnndaipnfniciaaGreatDoor
