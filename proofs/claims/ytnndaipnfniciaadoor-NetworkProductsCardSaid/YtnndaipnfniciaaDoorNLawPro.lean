/- The law NetworkProducts. -/
import Derived.Test.YtnndaipnfniciaaDoorNAwk
import Derived.Test.YtnndaipnfniciaaDoorNProdA
import Derived.Test.YtnndaipnfniciaaDoorNRPart
import Derived.Test.YtnndaipnfniciaaDoorBaseR
import Derived.Test.YtnndaipnfniciaaDoorNEqs
import Derived.Test.YtnndaipnfniciaaDoorNLiftN
namespace Go.Proofs.YtnndaipnfniciaaDoor
open Go.RowKit Go.Shelf
set_option maxRecDepth 100000
/-- What the program's functions return. -/
structure Prs (a b : Mat) (M : Mat) (D : G) (E1 E2 : Int) : Prop where
  pr : ∀ w, Con w → Calls Tryd.prog 16 #[.agg #[.int .i64 a.a.re, .int .i64 a.a.im, .int .i64 a.b.re, .int .i64 a.b.im, .int .i64 a.c.re, .int .i64 a.c.im, .int .i64 a.d.re, .int .i64 a.d.im], .agg #[.int .i64 b.a.re, .int .i64 b.a.im, .int .i64 b.b.re, .int .i64 b.b.im, .int .i64 b.c.re, .int .i64 b.c.im, .int .i64 b.d.re, .int .i64 b.d.im]] w fun e w' => e = .returned (.tuple #[.agg #[.int .i64 M.a.re, .int .i64 M.a.im, .int .i64 M.b.re, .int .i64 M.b.im, .int .i64 M.c.re, .int .i64 M.c.im, .int .i64 M.d.re, .int .i64 M.d.im], .int .i64 E1]) ∧ Below w.heap.size w w'
  de : ∀ w, Tur w → Calls Tryd.prog 17 #[.agg #[.int .i64 a.a.re, .int .i64 a.a.im, .int .i64 a.b.re, .int .i64 a.b.im, .int .i64 a.c.re, .int .i64 a.c.im, .int .i64 a.d.re, .int .i64 a.d.im]] w fun e w' => e = .returned (.tuple #[.agg #[.int .i64 D.re, .int .i64 D.im], .int .i64 E2]) ∧ Below w.heap.size w w'
def Mat.nil : Mat := ⟨.zero, .zero, .zero, .zero⟩
set_option maxHeartbeats 8000000 in
theorem lawPro_bb (a b : Mat) (w : World) (hV : VarsN w) (E1 E2 X2 : Int) (hA : smErr a.ents = E2) (hB : smErr b.ents = X2) (hF : fnz [E2, X2] = E1) (n1 : ¬ E1 = 0) (n2 : ¬ E2 = 0) (hI : Prs a b .nil .zero E1 E2) :
    Calls Tryd.prog 4 #[.agg #[.int .i64 a.a.re, .int .i64 a.a.im, .int .i64 a.b.re, .int .i64 a.b.im, .int .i64 a.c.re, .int .i64 a.c.im, .int .i64 a.d.re, .int .i64 a.d.im], .agg #[.int .i64 b.a.re, .int .i64 b.a.im, .int .i64 b.b.re, .int .i64 b.b.im, .int .i64 b.c.re, .int .i64 b.c.im, .int .i64 b.d.re, .int .i64 b.d.im]] w fun e w' => e = .returned (.bool true) ∧ Below w.heap.size w w' := by
  have t1 : (E1 == 0) = false := by simpa using n1
  have t2 : (E2 == 0) = false := by simpa using n2
  clear n1 n2
  obtain ⟨M, hM⟩ : ∃ M, Mat.nil = M := ⟨_, rfl⟩
  rw [hM] at hI
  have HM := hide hM
  clear hM
  obtain ⟨D, hD⟩ : ∃ D, G.zero = D := ⟨_, rfl⟩
  rw [hD] at hI
  have HD := hide hD
  clear hD
  have HI := hide hI
  have HA := hide hA
  have HB := hide hB
  have HF := hide hF
  clear hI hA hB hF
  go_enter Tryd.func4, Tryd.ntmps4
  go_upto_region 1 with (fail)
  obtain ⟨w1, e1, hb1, hz1, kA, kB⟩ := box2 w #[.int .i64 a.a.re, .int .i64 a.a.im, .int .i64 a.b.re, .int .i64 a.b.im, .int .i64 a.c.re, .int .i64 a.c.im, .int .i64 a.d.re, .int .i64 a.d.im] #[.int .i64 b.a.re, .int .i64 b.a.im, .int .i64 b.b.re, .int .i64 b.b.im, .int .i64 b.c.re, .int .i64 b.c.im, .int .i64 b.d.re, .int .i64 b.d.im] 55 55
  rw [← e1]; clear e1
  have cA := kA.cell
  have cB := kB.cell
  go_wp2_with fail
  refine (HI.out.pr _ (hV.con.carry (by repeat (first | with_reducible assumption | exact Below.refl _ _ | refine below_next (by with_reducible assumption) ?_)))).mono ?_
  rintro e w2 ⟨rfl, hb2⟩
  go_upto_region 2 with (fail)
  obtain ⟨w3, e3, hb3, hz3, kM⟩ := box1 w2 #[.int .i64 M.a.re, .int .i64 M.a.im, .int .i64 M.b.re, .int .i64 M.b.im, .int .i64 M.c.re, .int .i64 M.c.im, .int .i64 M.d.re, .int .i64 M.d.im] 36
  rw [← e3]; clear e3
  clear cA cB
  have cA := (carryK (w' := w3) kA (by repeat (first | with_reducible assumption | exact Below.refl _ _ | refine below_next (by with_reducible assumption) ?_))).cell
  go_wp2_with fail
  refine (HI.out.de _ (hV.tur.carry (by repeat (first | with_reducible assumption | exact Below.refl _ _ | refine below_next (by with_reducible assumption) ?_)))).mono ?_
  rintro e w4 ⟨rfl, hb4⟩
  go_upto_region 3 with (fail)
  obtain ⟨w5, e5, hb5, hz5, kD⟩ := box1 w4 #[.int .i64 D.re, .int .i64 D.im] 34
  rw [← e5]; clear e5
  clear cA
  have cA := (carryK (w' := w5) kA (by repeat (first | with_reducible assumption | exact Below.refl _ _ | refine below_next (by with_reducible assumption) ?_))).cell
  go_wp2_with fail
  refine (rCheckMatrix_any a _).mono ?_
  rintro e w6 ⟨rfl, hb6⟩
  rw [HA.out]
  clear cA
  have cB := (carryK (w' := w6) kB (by repeat (first | with_reducible assumption | exact Below.refl _ _ | refine below_next (by with_reducible assumption) ?_))).cell
  go_wp2_with fail
  refine (rCheckMatrix_any b _).mono ?_
  rintro e w7 ⟨rfl, hb7⟩
  rw [HB.out]
  clear cB
  go_upto_region 5 with ((go_at_call 19; (first | (with_reducible (refine (rFirst_any _ _ _ _ _ _ (reads2 _ _ _ _) (by omega)).mono ?_)) | (with_reducible (refine (rFirst_any _ _ _ _ _ _ (Reads.drew (reads2 _ _ _ _)) (by omega)).mono ?_))); rintro e W' ⟨rfl, rfl⟩))
  obtain ⟨w8, e8, hb8, hz8, _⟩ := box1 w7 #[.int .i64 E2, .int .i64 X2] 3
  rw [← e8]; clear e8
  rw [HF.out]
  go_upto_region 7 with (fail)
  obtain ⟨w9, e9, hb9, hz9, kP, kV⟩ := box2 w8 #[.int .i64 0, .int .i64 0, .int .i64 0, .int .i64 0, .int .i64 0, .int .i64 0, .int .i64 0, .int .i64 0] #[.int .i64 0, .int .i64 0] 55 34
  rw [← e9]; clear e9
  have kP2 : Blk w9 w8.heap.size 55 #[.int .i64 M.a.re, .int .i64 M.a.im, .int .i64 M.b.re, .int .i64 M.b.im, .int .i64 M.c.re, .int .i64 M.c.im, .int .i64 M.d.re, .int .i64 M.d.im] := by rw [← HM.out]; exact kP
  have kV2 : Blk w9 (w8.heap.size + 1) 34 #[.int .i64 D.re, .int .i64 D.im] := by rw [← HD.out]; exact kV
  have cM := (carryK (w' := w9) kM (by repeat (first | with_reducible assumption | exact Below.refl _ _ | refine below_next (by with_reducible assumption) ?_))).cell
  have cP := (carryK (w' := w9) kP2 (by repeat (first | with_reducible assumption | exact Below.refl _ _ | refine below_next (by with_reducible assumption) ?_))).cell
  have cD := (carryK (w' := w9) kD (by repeat (first | with_reducible assumption | exact Below.refl _ _ | refine below_next (by with_reducible assumption) ?_))).cell
  have cV := (carryK (w' := w9) kV2 (by repeat (first | with_reducible assumption | exact Below.refl _ _ | refine below_next (by with_reducible assumption) ?_))).cell
  have qM := fun W => reflMaR_eq M W
  have qG := fun W => reflG_eq D W
  go_wp2_with fail
  clear cM cP cD cV qM qG
  refine (awake_any _ (hV.con.carry (by repeat (first | with_reducible assumption | exact Below.refl _ _ | refine below_next (by with_reducible assumption) ?_))) (hV.tur.carry (by repeat (first | with_reducible assumption | exact Below.refl _ _ | refine below_next (by with_reducible assumption) ?_))) (hV.ten.carry (by repeat (first | with_reducible assumption | exact Below.refl _ _ | refine below_next (by with_reducible assumption) ?_)))).mono ?_
  rintro e wy ⟨rfl, hby⟩
  go_wp2_with fail
  go_ret
  exact ⟨rfl, (by repeat (first | with_reducible assumption | exact Below.refl _ _ | refine below_next (by with_reducible assumption) ?_))⟩
set_option maxHeartbeats 8000000 in
theorem lawPro_bg (a b : Mat) (w : World) (hV : VarsN w) (E1 X2 : Int) (D : G) (hA : smErr a.ents = 0) (hB : smErr b.ents = X2) (hF : fnz [0, X2] = E1) (n1 : ¬ E1 = 0) (hI : Prs a b .nil D E1 0) (hJ : ∀ w, Calls Tryd.prog 21 #[.agg #[.int .i64 a.a.re, .int .i64 a.a.im, .int .i64 a.b.re, .int .i64 a.b.im, .int .i64 a.c.re, .int .i64 a.c.im, .int .i64 a.d.re, .int .i64 a.d.im]] w fun e w' => e = .returned (.agg #[.int .i64 D.re, .int .i64 D.im]) ∧ Below w.heap.size w w') :
    Calls Tryd.prog 4 #[.agg #[.int .i64 a.a.re, .int .i64 a.a.im, .int .i64 a.b.re, .int .i64 a.b.im, .int .i64 a.c.re, .int .i64 a.c.im, .int .i64 a.d.re, .int .i64 a.d.im], .agg #[.int .i64 b.a.re, .int .i64 b.a.im, .int .i64 b.b.re, .int .i64 b.b.im, .int .i64 b.c.re, .int .i64 b.c.im, .int .i64 b.d.re, .int .i64 b.d.im]] w fun e w' => e = .returned (.bool true) ∧ Below w.heap.size w w' := by
  have t1 : (E1 == 0) = false := by simpa using n1
  have HJ := hide hJ
  clear n1 hJ
  obtain ⟨M, hM⟩ : ∃ M, Mat.nil = M := ⟨_, rfl⟩
  rw [hM] at hI
  have HM := hide hM
  clear hM
  have HI := hide hI
  have HA := hide hA
  have HB := hide hB
  have HF := hide hF
  clear hI hA hB hF
  go_enter Tryd.func4, Tryd.ntmps4
  go_upto_region 1 with (fail)
  obtain ⟨w1, e1, hb1, hz1, kA, kB⟩ := box2 w #[.int .i64 a.a.re, .int .i64 a.a.im, .int .i64 a.b.re, .int .i64 a.b.im, .int .i64 a.c.re, .int .i64 a.c.im, .int .i64 a.d.re, .int .i64 a.d.im] #[.int .i64 b.a.re, .int .i64 b.a.im, .int .i64 b.b.re, .int .i64 b.b.im, .int .i64 b.c.re, .int .i64 b.c.im, .int .i64 b.d.re, .int .i64 b.d.im] 55 55
  rw [← e1]; clear e1
  have cA := kA.cell
  have cB := kB.cell
  go_wp2_with fail
  refine (HI.out.pr _ (hV.con.carry (by repeat (first | with_reducible assumption | exact Below.refl _ _ | refine below_next (by with_reducible assumption) ?_)))).mono ?_
  rintro e w2 ⟨rfl, hb2⟩
  go_upto_region 2 with (fail)
  obtain ⟨w3, e3, hb3, hz3, kM⟩ := box1 w2 #[.int .i64 M.a.re, .int .i64 M.a.im, .int .i64 M.b.re, .int .i64 M.b.im, .int .i64 M.c.re, .int .i64 M.c.im, .int .i64 M.d.re, .int .i64 M.d.im] 36
  rw [← e3]; clear e3
  clear cA cB
  have cA := (carryK (w' := w3) kA (by repeat (first | with_reducible assumption | exact Below.refl _ _ | refine below_next (by with_reducible assumption) ?_))).cell
  go_wp2_with fail
  refine (HI.out.de _ (hV.tur.carry (by repeat (first | with_reducible assumption | exact Below.refl _ _ | refine below_next (by with_reducible assumption) ?_)))).mono ?_
  rintro e w4 ⟨rfl, hb4⟩
  go_upto_region 3 with (fail)
  obtain ⟨w5, e5, hb5, hz5, kD⟩ := box1 w4 #[.int .i64 D.re, .int .i64 D.im] 34
  rw [← e5]; clear e5
  clear cA
  have cA := (carryK (w' := w5) kA (by repeat (first | with_reducible assumption | exact Below.refl _ _ | refine below_next (by with_reducible assumption) ?_))).cell
  go_wp2_with fail
  refine (rCheckMatrix_any a _).mono ?_
  rintro e w6 ⟨rfl, hb6⟩
  rw [HA.out]
  clear cA
  have cB := (carryK (w' := w6) kB (by repeat (first | with_reducible assumption | exact Below.refl _ _ | refine below_next (by with_reducible assumption) ?_))).cell
  go_wp2_with fail
  refine (rCheckMatrix_any b _).mono ?_
  rintro e w7 ⟨rfl, hb7⟩
  rw [HB.out]
  clear cB
  go_upto_region 5 with ((go_at_call 19; (first | (with_reducible (refine (rFirst_any _ _ _ _ _ _ (reads2 _ _ _ _) (by omega)).mono ?_)) | (with_reducible (refine (rFirst_any _ _ _ _ _ _ (Reads.drew (reads2 _ _ _ _)) (by omega)).mono ?_))); rintro e W' ⟨rfl, rfl⟩))
  obtain ⟨w8, e8, hb8, hz8, _⟩ := box1 w7 #[.int .i64 0, .int .i64 X2] 3
  rw [← e8]; clear e8
  rw [HF.out]
  go_upto_region 7 with (fail)
  obtain ⟨w9, e9, hb9, hz9, kP, kV⟩ := box2 w8 #[.int .i64 0, .int .i64 0, .int .i64 0, .int .i64 0, .int .i64 0, .int .i64 0, .int .i64 0, .int .i64 0] #[.int .i64 0, .int .i64 0] 55 34
  rw [← e9]; clear e9
  have cA := (carryK (w' := w9) kA (by repeat (first | with_reducible assumption | exact Below.refl _ _ | refine below_next (by with_reducible assumption) ?_))).cell
  go_wp2_with fail
  refine (HJ.out _).mono ?_
  rintro e w10 ⟨rfl, hb10⟩
  clear cA
  have kP1 := carryK (w' := w10) kP (by repeat (first | with_reducible assumption | exact Below.refl _ _ | refine below_next (by with_reducible assumption) ?_))
  have kV1 := carryK (w' := w10) kV (by repeat (first | with_reducible assumption | exact Below.refl _ _ | refine below_next (by with_reducible assumption) ?_))
  have kV2 := blk2 (u0 := .int .i64 D.re) (u1 := .int .i64 D.im) kV1
  have kP2 : Blk ((w10.setCell ⟨w8.heap.size + 1, 0, none⟩ (.int .i64 D.re)).setCell ⟨w8.heap.size + 1, 1, none⟩ (.int .i64 D.im)) w8.heap.size 55 #[.int .i64 M.a.re, .int .i64 M.a.im, .int .i64 M.b.re, .int .i64 M.b.im, .int .i64 M.c.re, .int .i64 M.c.im, .int .i64 M.d.re, .int .i64 M.d.im] := by rw [← HM.out]; exact far2 (g := w8.heap.size + 1) (u0 := .int .i64 D.re) (u1 := .int .i64 D.im) kP1 (by omega)
  have hb12 := below2 (u0 := .int .i64 D.re) (u1 := .int .i64 D.im) (show Below w8.heap.size w8 w10 from (by repeat (first | with_reducible assumption | exact Below.refl _ _ | refine below_next (by with_reducible assumption) ?_))) (show w8.heap.size ≤ w8.heap.size + 1 by omega)
  have cV := kV1.cell
  have fV := kV1.frozen
  go_upto_region 11 with (fail)
  obtain ⟨w12, e12⟩ : ∃ W, W = (w10.setCell ⟨w8.heap.size + 1, 0, none⟩ (.int .i64 D.re)).setCell ⟨w8.heap.size + 1, 1, none⟩ (.int .i64 D.im) := ⟨_, rfl⟩
  rw [← e12] at kV2 kP2 hb12 ⊢
  clear e12 cV fV kP1 kV1 kP kV hb9 hb10
  have cM := (carryK (w' := w12) kM (by repeat (first | with_reducible assumption | exact Below.refl _ _ | refine below_next (by with_reducible assumption) ?_))).cell
  have cP := (carryK (w' := w12) kP2 (by repeat (first | with_reducible assumption | exact Below.refl _ _ | refine below_next (by with_reducible assumption) ?_))).cell
  have cD := (carryK (w' := w12) kD (by repeat (first | with_reducible assumption | exact Below.refl _ _ | refine below_next (by with_reducible assumption) ?_))).cell
  have cV := (carryK (w' := w12) kV2 (by repeat (first | with_reducible assumption | exact Below.refl _ _ | refine below_next (by with_reducible assumption) ?_))).cell
  have qM := fun W => reflMaR_eq M W
  have qG := fun W => reflG_eq D W
  go_wp2_with fail
  clear cM cP cD cV qM qG
  refine (awake_any _ (hV.con.carry (by repeat (first | with_reducible assumption | exact Below.refl _ _ | refine below_next (by with_reducible assumption) ?_))) (hV.tur.carry (by repeat (first | with_reducible assumption | exact Below.refl _ _ | refine below_next (by with_reducible assumption) ?_))) (hV.ten.carry (by repeat (first | with_reducible assumption | exact Below.refl _ _ | refine below_next (by with_reducible assumption) ?_)))).mono ?_
  rintro e wy ⟨rfl, hby⟩
  go_wp2_with fail
  go_ret
  exact ⟨rfl, (by repeat (first | with_reducible assumption | exact Below.refl _ _ | refine below_next (by with_reducible assumption) ?_))⟩
set_option maxHeartbeats 8000000 in
theorem lawPro_gg (a b : Mat) (w : World) (hV : VarsN w) (M : Mat) (D : G) (hA : smErr a.ents = 0) (hB : smErr b.ents = 0) (hI : Prs a b M D 0 0) (hJ : ∀ w, Calls Tryd.prog 21 #[.agg #[.int .i64 a.a.re, .int .i64 a.a.im, .int .i64 a.b.re, .int .i64 a.b.im, .int .i64 a.c.re, .int .i64 a.c.im, .int .i64 a.d.re, .int .i64 a.d.im]] w fun e w' => e = .returned (.agg #[.int .i64 D.re, .int .i64 D.im]) ∧ Below w.heap.size w w') (hK : ∀ w, Calls Tryd.prog 20 #[.agg #[.int .i64 a.a.re, .int .i64 a.a.im, .int .i64 a.b.re, .int .i64 a.b.im, .int .i64 a.c.re, .int .i64 a.c.im, .int .i64 a.d.re, .int .i64 a.d.im], .agg #[.int .i64 b.a.re, .int .i64 b.a.im, .int .i64 b.b.re, .int .i64 b.b.im, .int .i64 b.c.re, .int .i64 b.c.im, .int .i64 b.d.re, .int .i64 b.d.im]] w fun e w' => e = .returned (.agg #[.int .i64 M.a.re, .int .i64 M.a.im, .int .i64 M.b.re, .int .i64 M.b.im, .int .i64 M.c.re, .int .i64 M.c.im, .int .i64 M.d.re, .int .i64 M.d.im]) ∧ Below w.heap.size w w') :
    Calls Tryd.prog 4 #[.agg #[.int .i64 a.a.re, .int .i64 a.a.im, .int .i64 a.b.re, .int .i64 a.b.im, .int .i64 a.c.re, .int .i64 a.c.im, .int .i64 a.d.re, .int .i64 a.d.im], .agg #[.int .i64 b.a.re, .int .i64 b.a.im, .int .i64 b.b.re, .int .i64 b.b.im, .int .i64 b.c.re, .int .i64 b.c.im, .int .i64 b.d.re, .int .i64 b.d.im]] w fun e w' => e = .returned (.bool true) ∧ Below w.heap.size w w' := by
  have hF : fnz [0, 0] = 0 := rfl
  have HJ := hide hJ
  have HK := hide hK
  clear hJ hK
  have HI := hide hI
  have HA := hide hA
  have HB := hide hB
  have HF := hide hF
  clear hI hA hB hF
  go_enter Tryd.func4, Tryd.ntmps4
  go_upto_region 1 with (fail)
  obtain ⟨w1, e1, hb1, hz1, kA, kB⟩ := box2 w #[.int .i64 a.a.re, .int .i64 a.a.im, .int .i64 a.b.re, .int .i64 a.b.im, .int .i64 a.c.re, .int .i64 a.c.im, .int .i64 a.d.re, .int .i64 a.d.im] #[.int .i64 b.a.re, .int .i64 b.a.im, .int .i64 b.b.re, .int .i64 b.b.im, .int .i64 b.c.re, .int .i64 b.c.im, .int .i64 b.d.re, .int .i64 b.d.im] 55 55
  rw [← e1]; clear e1
  have cA := kA.cell
  have cB := kB.cell
  go_wp2_with fail
  refine (HI.out.pr _ (hV.con.carry (by repeat (first | with_reducible assumption | exact Below.refl _ _ | refine below_next (by with_reducible assumption) ?_)))).mono ?_
  rintro e w2 ⟨rfl, hb2⟩
  go_upto_region 2 with (fail)
  obtain ⟨w3, e3, hb3, hz3, kM⟩ := box1 w2 #[.int .i64 M.a.re, .int .i64 M.a.im, .int .i64 M.b.re, .int .i64 M.b.im, .int .i64 M.c.re, .int .i64 M.c.im, .int .i64 M.d.re, .int .i64 M.d.im] 36
  rw [← e3]; clear e3
  clear cA cB
  have cA := (carryK (w' := w3) kA (by repeat (first | with_reducible assumption | exact Below.refl _ _ | refine below_next (by with_reducible assumption) ?_))).cell
  go_wp2_with fail
  refine (HI.out.de _ (hV.tur.carry (by repeat (first | with_reducible assumption | exact Below.refl _ _ | refine below_next (by with_reducible assumption) ?_)))).mono ?_
  rintro e w4 ⟨rfl, hb4⟩
  go_upto_region 3 with (fail)
  obtain ⟨w5, e5, hb5, hz5, kD⟩ := box1 w4 #[.int .i64 D.re, .int .i64 D.im] 34
  rw [← e5]; clear e5
  clear cA
  have cA := (carryK (w' := w5) kA (by repeat (first | with_reducible assumption | exact Below.refl _ _ | refine below_next (by with_reducible assumption) ?_))).cell
  go_wp2_with fail
  refine (rCheckMatrix_any a _).mono ?_
  rintro e w6 ⟨rfl, hb6⟩
  rw [HA.out]
  clear cA
  have cB := (carryK (w' := w6) kB (by repeat (first | with_reducible assumption | exact Below.refl _ _ | refine below_next (by with_reducible assumption) ?_))).cell
  go_wp2_with fail
  refine (rCheckMatrix_any b _).mono ?_
  rintro e w7 ⟨rfl, hb7⟩
  rw [HB.out]
  clear cB
  go_upto_region 5 with ((go_at_call 19; (first | (with_reducible (refine (rFirst_any _ _ _ _ _ _ (reads2 _ _ _ _) (by omega)).mono ?_)) | (with_reducible (refine (rFirst_any _ _ _ _ _ _ (Reads.drew (reads2 _ _ _ _)) (by omega)).mono ?_))); rintro e W' ⟨rfl, rfl⟩))
  obtain ⟨w8, e8, hb8, hz8, _⟩ := box1 w7 #[.int .i64 0, .int .i64 0] 3
  rw [← e8]; clear e8
  rw [HF.out]
  go_upto_region 7 with (fail)
  obtain ⟨w9, e9, hb9, hz9, kP, kV⟩ := box2 w8 #[.int .i64 0, .int .i64 0, .int .i64 0, .int .i64 0, .int .i64 0, .int .i64 0, .int .i64 0, .int .i64 0] #[.int .i64 0, .int .i64 0] 55 34
  rw [← e9]; clear e9
  have cA := (carryK (w' := w9) kA (by repeat (first | with_reducible assumption | exact Below.refl _ _ | refine below_next (by with_reducible assumption) ?_))).cell
  have cB := (carryK (w' := w9) kB (by repeat (first | with_reducible assumption | exact Below.refl _ _ | refine below_next (by with_reducible assumption) ?_))).cell
  go_wp2_with fail
  refine (HK.out _).mono ?_
  rintro e w10 ⟨rfl, hb10⟩
  clear cA cB
  have kP1 := carryK (w' := w10) kP (by repeat (first | with_reducible assumption | exact Below.refl _ _ | refine below_next (by with_reducible assumption) ?_))
  have kV1 := carryK (w' := w10) kV (by repeat (first | with_reducible assumption | exact Below.refl _ _ | refine below_next (by with_reducible assumption) ?_))
  have hb8a : Below w8.heap.size w8 w10 := (by repeat (first | with_reducible assumption | exact Below.refl _ _ | refine below_next (by with_reducible assumption) ?_))
  obtain ⟨X, eX, kX, _, hfX, hX⟩ := set8 w10 w8.heap.size 55 _ _ _ _ _ _ _ _ (.int .i64 M.a.re) (.int .i64 M.a.im) (.int .i64 M.b.re) (.int .i64 M.b.im) (.int .i64 M.c.re) (.int .i64 M.c.im) (.int .i64 M.d.re) (.int .i64 M.d.im) kP1
  have kVX := hfX _ _ _ (by omega) kV1
  have hbX := hX _ _ (Nat.le_refl _) hb8a
  have cP := kP1.cell
  have fP := kP1.frozen
  clear hfX hX
  go_upto_region 9 with (fail)
  rw [← eX]
  clear eX cP fP kP1 kV1 kP kV hb8a hb9 hb10
  have cA := (carryK (w' := X) kA (by repeat (first | with_reducible assumption | exact Below.refl _ _ | refine below_next (by with_reducible assumption) ?_))).cell
  go_wp2_with fail
  refine (HJ.out _).mono ?_
  rintro e w11 ⟨rfl, hb11⟩
  clear cA
  have kP1 := carryK (w' := w11) kX hb11
  have kV1 := carryK (w' := w11) kVX hb11
  have kV2 := blk2 (u0 := .int .i64 D.re) (u1 := .int .i64 D.im) kV1
  have kP2 := far2 (g := w8.heap.size + 1) (u0 := .int .i64 D.re) (u1 := .int .i64 D.im) kP1 (by omega)
  have hb12 := below2 (u0 := .int .i64 D.re) (u1 := .int .i64 D.im) (show Below w8.heap.size w8 w11 from (by repeat (first | with_reducible assumption | exact Below.refl _ _ | refine below_next (by with_reducible assumption) ?_))) (show w8.heap.size ≤ w8.heap.size + 1 by omega)
  have cV := kV1.cell
  have fV := kV1.frozen
  go_upto_region 11 with (fail)
  obtain ⟨w12, e12⟩ : ∃ W, W = (w11.setCell ⟨w8.heap.size + 1, 0, none⟩ (.int .i64 D.re)).setCell ⟨w8.heap.size + 1, 1, none⟩ (.int .i64 D.im) := ⟨_, rfl⟩
  rw [← e12] at kV2 kP2 hb12 ⊢
  clear e12 cV fV kP1 kV1 kX kVX hbX hb11
  have cM := (carryK (w' := w12) kM (by repeat (first | with_reducible assumption | exact Below.refl _ _ | refine below_next (by with_reducible assumption) ?_))).cell
  have cP := (carryK (w' := w12) kP2 (by repeat (first | with_reducible assumption | exact Below.refl _ _ | refine below_next (by with_reducible assumption) ?_))).cell
  have cD := (carryK (w' := w12) kD (by repeat (first | with_reducible assumption | exact Below.refl _ _ | refine below_next (by with_reducible assumption) ?_))).cell
  have cV := (carryK (w' := w12) kV2 (by repeat (first | with_reducible assumption | exact Below.refl _ _ | refine below_next (by with_reducible assumption) ?_))).cell
  have qM := fun W => reflMaR_eq M W
  have qG := fun W => reflG_eq D W
  go_wp2_with fail
  clear cM cP cD cV qM qG
  refine (awake_any _ (hV.con.carry (by repeat (first | with_reducible assumption | exact Below.refl _ _ | refine below_next (by with_reducible assumption) ?_))) (hV.tur.carry (by repeat (first | with_reducible assumption | exact Below.refl _ _ | refine below_next (by with_reducible assumption) ?_))) (hV.ten.carry (by repeat (first | with_reducible assumption | exact Below.refl _ _ | refine below_next (by with_reducible assumption) ?_)))).mono ?_
  rintro e wy ⟨rfl, hby⟩
  go_wp2_with fail
  go_ret
  exact ⟨rfl, (by repeat (first | with_reducible assumption | exact Below.refl _ _ | refine below_next (by with_reducible assumption) ?_))⟩
theorem lawPro_any (a b : Mat) (w : World) (hV : VarsN w) :
    Calls Tryd.prog 4 #[.agg #[.int .i64 a.a.re, .int .i64 a.a.im, .int .i64 a.b.re, .int .i64 a.b.im, .int .i64 a.c.re, .int .i64 a.c.im, .int .i64 a.d.re, .int .i64 a.d.im], .agg #[.int .i64 b.a.re, .int .i64 b.a.im, .int .i64 b.b.re, .int .i64 b.b.im, .int .i64 b.c.re, .int .i64 b.c.im, .int .i64 b.d.re, .int .i64 b.d.im]] w fun e w' => e = .returned (.bool true) ∧ Below w.heap.size w w' := by
  by_cases h1 : smErr a.ents = 0
  · have hde : ∀ w, Tur w → Calls Tryd.prog 17 #[.agg #[.int .i64 a.a.re, .int .i64 a.a.im, .int .i64 a.b.re, .int .i64 a.b.im, .int .i64 a.c.re, .int .i64 a.c.im, .int .i64 a.d.re, .int .i64 a.d.im]] w fun e w' => e = .returned (.tuple #[.agg #[.int .i64 a.det.re, .int .i64 a.det.im], .int .i64 0]) ∧ Below w.heap.size w w' := fun w hT => Determinant_ok a w hT h1
    have hrd := fun w => rDeterminant_ok a w h1
    by_cases h2 : smErr b.ents = 0
    · exact lawPro_gg a b w hV (a.mul b) a.det h1 h2 ⟨fun w hC => Product_sm a b w hC h1 h2, hde⟩ hrd (fun w => by
        have := rProduct_any a b w
        rwa [mul_sm h1 h2] at this)
    · have hz : fnz [0, smErr b.ents] = smErr b.ents := by simp [fnz, h2]
      exact lawPro_bg a b w hV (smErr b.ents) (smErr b.ents) a.det h1 rfl hz h2 ⟨fun w _ => Product_bad a b _ w (by rw [h1]; exact hz) h2, hde⟩ hrd
  · have hz : fnz [smErr a.ents, smErr b.ents] = smErr a.ents := by simp [fnz, h1]
    exact lawPro_bb a b w hV (smErr a.ents) (smErr a.ents) (smErr b.ents) rfl rfl hz h1 h1 ⟨fun w _ => Product_bad a b _ w hz h1, fun w _ => Determinant_bad a w (by simpa using h1)⟩
end Go.Proofs.YtnndaipnfniciaaDoor
