/- The law NetworkImpedances. -/
import Derived.Test.YtnndaipnfniciaaGreatDoorNAwk
import Derived.Test.YtnndaipnfniciaaGreatDoorNBad
import Derived.Test.YtnndaipnfniciaaGreatDoorNEqs
import Derived.Test.YtnndaipnfniciaaGreatDoorNRImp
import Derived.Test.YtnndaipnfniciaaGreatDoorNLiftN
import Derived.Deep.DeepCutAuto
namespace Go.Proofs.YtnndaipnfniciaaGreatDoor
open Go.RowKit Go.Shelf
set_option maxRecDepth 100000
theorem reflR_eq (a : Rt) (w : World) : (binOp .eql 54 (.agg #[.int .i64 a.n, .int .i64 a.d]) (.agg #[.int .i64 a.n, .int .i64 a.d])).run Tryz.prog w = .ok (.bool true) w := by
  have hh : (Op.equalIn 10000 54 (.agg #[.int .i64 a.n, .int .i64 a.d]) (.agg #[.int .i64 a.n, .int .i64 a.d])).run Tryz.prog w = .ok true w := by
    rw [show (10000 : Nat) = 9999 + 1 from rfl, run_equalIn_struct w 9999 54 _ _ (by kernel_rfl) (by kernel_rfl)]
    simp [Program.fieldsOf, Tryz.underlying54, Op.eqFields, go_sem, run_equalIn_int _ _ _ _ _ _ _ Tryz.underlying3]
  simp only [binOp, Op.equal, Op.maxDepth]
  simp [hh, go_sem]
theorem shortI {l : List El} {w : World} {A : Option Addr} {n : Nat} (hR : Reads w w.heap.size 3 A n (els l)) (h : shortB l = true) : n ≤ 6 := by
  unfold shortB at h
  rw [Bool.and_eq_true, decide_eq_true_eq] at h
  have := els_reads_len hR
  omega
theorem lawImp_long (A : Option Addr) (n c : Nat) (l : List El) (f : Int) (w : World) (hV : VarsN w) (hR : Reads w w.heap.size 3 A n (els l)) (hs : shortB l = false) :
    Calls Tryz.prog 7 #[.slice A n c, .int .i64 f] w fun e w' => e = .returned (.bool true) ∧ Below w.heap.size w w' := by
  go_enter Tryz.func7, Tryz.ntmps7
  go_wp2_with fail
  refine (rShort_any A n c l _ hR).mono ?_
  rintro e w1 ⟨rfl, hb1⟩
  rw [hs]
  clear hs
  go_wp2_with fail
  refine (awake_any _ (hV.con.carry (by repeat (first | with_reducible assumption | exact Below.refl _ _ | refine below_next (by with_reducible assumption) ?_))) (hV.tur.carry (by repeat (first | with_reducible assumption | exact Below.refl _ _ | refine below_next (by with_reducible assumption) ?_))) (hV.ten.carry (by repeat (first | with_reducible assumption | exact Below.refl _ _ | refine below_next (by with_reducible assumption) ?_)))).mono ?_
  rintro e wz ⟨rfl, hbz⟩
  go_wp2_with fail
  go_ret
  exact ⟨rfl, (by repeat (first | with_reducible assumption | exact Below.refl _ _ | refine below_next (by with_reducible assumption) ?_))⟩
/-- What the program's functions return. -/
structure Imp (A : Option Addr) (n : Nat) (l : List El) (f : Int) (x y z : Pr) (v : Rt) (p : Int) (b : Bool) (e1 e2 e3 e4 e5 e6 : Int) : Prop where
  inp : ∀ A c w, Con w → Reads w w.heap.size 3 A n (els l) → Calls Tryz.prog 47 #[.slice A n c, .int .i64 f] w fun e w' => e = .returned (.tuple #[.agg #[.int .i64 x.n.re, .int .i64 x.n.im, .int .i64 x.d.re, .int .i64 x.d.im], .int .i64 e1]) ∧ Below w.heap.size w w'
  sho : ∀ A c w, Con w → Reads w w.heap.size 3 A n (els l) → Calls Tryz.prog 48 #[.slice A n c, .int .i64 f] w fun e w' => e = .returned (.tuple #[.agg #[.int .i64 y.n.re, .int .i64 y.n.im, .int .i64 y.d.re, .int .i64 y.d.im], .int .i64 e2]) ∧ Below w.heap.size w w'
  tra : ∀ A c w, Con w → Reads w w.heap.size 3 A n (els l) → Calls Tryz.prog 49 #[.slice A n c, .int .i64 f] w fun e w' => e = .returned (.tuple #[.agg #[.int .i64 z.n.re, .int .i64 z.n.im, .int .i64 z.d.re, .int .i64 z.d.im], .int .i64 e3]) ∧ Below w.heap.size w w'
  lev : ∀ A c w, Con w → Reads w w.heap.size 3 A n (els l) → Calls Tryz.prog 50 #[.slice A n c, .int .i64 f] w fun e w' => e = .returned (.tuple #[.agg #[.int .i64 v.n, .int .i64 v.d], .int .i64 e4]) ∧ Below w.heap.size w w'
  pow : ∀ A c w, Con w → Reads w w.heap.size 3 A n (els l) → Calls Tryz.prog 51 #[.slice A n c, .int .i64 f] w fun e w' => e = .returned (.tuple #[.int .i64 p, .int .i64 e5]) ∧ Below w.heap.size w w'
  los : ∀ A c w, Reads w w.heap.size 3 A n (els l) → Calls Tryz.prog 52 #[.slice A n c] w fun e w' => e = .returned (.tuple #[.bool b, .int .i64 e6]) ∧ Below w.heap.size w w'
set_option maxHeartbeats 8000000 in
theorem lawImp_bad (A : Option Addr) (n c : Nat) (l : List El) (f : Int) (w : World) (hV : VarsN w) (hR : Reads w w.heap.size 3 A n (els l)) (hs : shortB l = true) (E O : Int) (he : atErr l f = E) (ho : ladErr l = O) (hE : ¬ E = 0) (x y z : Pr) (v : Rt) (hx : x = .zero) (hy : y = .zero) (hz : z = .zero) (hv : v = ⟨0, 0⟩) (b : Bool) (hI : Imp A n l f x y z v 0 b E E E E E O) (hb : b = (decide (O = 0) && lossB l)) :
    Calls Tryz.prog 7 #[.slice A n c, .int .i64 f] w fun e w' => e = .returned (.bool true) ∧ Below w.heap.size w w' := by
  have hn6 := shortI hR hs
  have HS := hide hs
  have HE := hide he
  have HI := hide hI
  have t0 : (E == 0) = false := by simpa using hE
  have qX : ∀ W, (binOp .eql 25 (.agg #[.int .i64 x.n.re, .int .i64 x.n.im, .int .i64 x.d.re, .int .i64 x.d.im]) (.agg #[.int .i64 0, .int .i64 0, .int .i64 0, .int .i64 0])).run Tryz.prog W = .ok (.bool true) W := fun W => by subst hx; exact reflPrR_eq .zero W
  have qY : ∀ W, (binOp .eql 25 (.agg #[.int .i64 y.n.re, .int .i64 y.n.im, .int .i64 y.d.re, .int .i64 y.d.im]) (.agg #[.int .i64 0, .int .i64 0, .int .i64 0, .int .i64 0])).run Tryz.prog W = .ok (.bool true) W := fun W => by subst hy; exact reflPrR_eq .zero W
  have qZ : ∀ W, (binOp .eql 25 (.agg #[.int .i64 z.n.re, .int .i64 z.n.im, .int .i64 z.d.re, .int .i64 z.d.im]) (.agg #[.int .i64 0, .int .i64 0, .int .i64 0, .int .i64 0])).run Tryz.prog W = .ok (.bool true) W := fun W => by subst hz; exact reflPrR_eq .zero W
  have qV : ∀ W, (binOp .eql 54 (.agg #[.int .i64 v.n, .int .i64 v.d]) (.agg #[.int .i64 0, .int .i64 0])).run Tryz.prog W = .ok (.bool true) W := fun W => by subst hv; exact reflR_eq ⟨0, 0⟩ W
  clear hs he hI hE hx hy hz hv
  by_cases hO : O = 0
  · subst hO
    have HO := hide ho
    have HB : Hid (lossB l = b) := by show lossB l = b; rw [hb]; simp
    clear ho hb
    go_enter Tryz.func7, Tryz.ntmps7
    go_wp2_with fail
    refine (rShort_any A n c l _ hR).mono ?_
    rintro e w1 ⟨rfl, hb1⟩
    rw [HS.out]
    go_wp2_with fail
    refine (ladder_lad A n c l _ (carry hR (by repeat (first | with_reducible assumption | exact Below.refl _ _ | refine below_next (by with_reducible assumption) ?_))) (by omega)).mono ?_
    rintro e w2 ⟨A2, cA2, rfl, rA2, hbw2⟩
    go_wp2_with fail
    refine (HI.out.inp A2 cA2 _ (hV.con.carry (by repeat (first | with_reducible assumption | exact Below.refl _ _ | refine below_next (by with_reducible assumption) ?_))) rA2).mono ?_
    rintro e w3 ⟨rfl, hbw3⟩
    go_upto_region 4 with (fail)
    obtain ⟨w4, ew4, hbw4, hzw4, kX⟩ := box1 w3 #[.int .i64 (x).n.re, .int .i64 (x).n.im, .int .i64 (x).d.re, .int .i64 (x).d.im] 32
    rw [← ew4]; clear ew4
    go_wp2_with fail
    refine (ladder_lad A n c l _ (carry hR (by repeat (first | with_reducible assumption | exact Below.refl _ _ | refine below_next (by with_reducible assumption) ?_))) (by omega)).mono ?_
    rintro e w5 ⟨A5, cA5, rfl, rA5, hbw5⟩
    go_wp2_with fail
    refine (HI.out.sho A5 cA5 _ (hV.con.carry (by repeat (first | with_reducible assumption | exact Below.refl _ _ | refine below_next (by with_reducible assumption) ?_))) rA5).mono ?_
    rintro e w6 ⟨rfl, hbw6⟩
    go_upto_region 5 with (fail)
    obtain ⟨w7, ew7, hbw7, hzw7, kY⟩ := box1 w6 #[.int .i64 (y).n.re, .int .i64 (y).n.im, .int .i64 (y).d.re, .int .i64 (y).d.im] 32
    rw [← ew7]; clear ew7
    go_wp2_with fail
    refine (ladder_lad A n c l _ (carry hR (by repeat (first | with_reducible assumption | exact Below.refl _ _ | refine below_next (by with_reducible assumption) ?_))) (by omega)).mono ?_
    rintro e w8 ⟨A8, cA8, rfl, rA8, hbw8⟩
    go_wp2_with fail
    refine (HI.out.tra A8 cA8 _ (hV.con.carry (by repeat (first | with_reducible assumption | exact Below.refl _ _ | refine below_next (by with_reducible assumption) ?_))) rA8).mono ?_
    rintro e w9 ⟨rfl, hbw9⟩
    go_upto_region 6 with (fail)
    obtain ⟨w10, ew10, hbw10, hzw10, kZ⟩ := box1 w9 #[.int .i64 (z).n.re, .int .i64 (z).n.im, .int .i64 (z).d.re, .int .i64 (z).d.im] 32
    rw [← ew10]; clear ew10
    go_wp2_with fail
    refine (ladder_lad A n c l _ (carry hR (by repeat (first | with_reducible assumption | exact Below.refl _ _ | refine below_next (by with_reducible assumption) ?_))) (by omega)).mono ?_
    rintro e w11 ⟨A11, cA11, rfl, rA11, hbw11⟩
    go_wp2_with fail
    refine (HI.out.lev A11 cA11 _ (hV.con.carry (by repeat (first | with_reducible assumption | exact Below.refl _ _ | refine below_next (by with_reducible assumption) ?_))) rA11).mono ?_
    rintro e w12 ⟨rfl, hb12⟩
    go_upto_region 7 with (fail)
    obtain ⟨w13, e13, hb13, hz13, kV⟩ := box1 w12 #[.int .i64 (v).n, .int .i64 (v).d] 54
    rw [← e13]; clear e13
    go_wp2_with fail
    refine (ladder_lad A n c l _ (carry hR (by repeat (first | with_reducible assumption | exact Below.refl _ _ | refine below_next (by with_reducible assumption) ?_))) (by omega)).mono ?_
    rintro e w14 ⟨A14, cA14, rfl, rA14, hbw14⟩
    go_wp2_with fail
    refine (HI.out.pow A14 cA14 _ (hV.con.carry (by repeat (first | with_reducible assumption | exact Below.refl _ _ | refine below_next (by with_reducible assumption) ?_))) rA14).mono ?_
    rintro e w15 ⟨rfl, hb15⟩
    go_wp2_with fail
    refine (ladder_lad A n c l _ (carry hR (by repeat (first | with_reducible assumption | exact Below.refl _ _ | refine below_next (by with_reducible assumption) ?_))) (by omega)).mono ?_
    rintro e w16 ⟨A16, cA16, rfl, rA16, hbw16⟩
    go_wp2_with fail
    refine (HI.out.los A16 cA16 _ rA16).mono ?_
    rintro e w17 ⟨rfl, hb17⟩
    go_wp2_with fail
    refine (rCheckAt_any A n c l f _ (carry hR (by repeat (first | with_reducible assumption | exact Below.refl _ _ | refine below_next (by with_reducible assumption) ?_)))).mono ?_
    rintro e w18 ⟨rfl, hb18⟩
    rw [HE.out]
    go_wp2_with fail
    refine (rCheckLadder_all A n c l _ (carry hR (by repeat (first | with_reducible assumption | exact Below.refl _ _ | refine below_next (by with_reducible assumption) ?_)))).mono ?_
    rintro e w19 ⟨rfl, hb19⟩
    rw [HO.out]
    go_upto_region 13 with (fail)
    obtain ⟨w20, e20, hb20, hz20, kA, kB, kC, kL⟩ := box4 w19 #[.int .i64 0, .int .i64 0, .int .i64 0, .int .i64 0] #[.int .i64 0, .int .i64 0, .int .i64 0, .int .i64 0] #[.int .i64 0, .int .i64 0, .int .i64 0, .int .i64 0] #[.int .i64 0, .int .i64 0] 25 25 25 54
    rw [← e20]; clear e20
    have cX := (carryK (w' := w20) kX (by repeat (first | with_reducible assumption | exact Below.refl _ _ | refine below_next (by with_reducible assumption) ?_))).cell
    have cY := (carryK (w' := w20) kY (by repeat (first | with_reducible assumption | exact Below.refl _ _ | refine below_next (by with_reducible assumption) ?_))).cell
    have cZ := (carryK (w' := w20) kZ (by repeat (first | with_reducible assumption | exact Below.refl _ _ | refine below_next (by with_reducible assumption) ?_))).cell
    have cV := (carryK (w' := w20) kV (by repeat (first | with_reducible assumption | exact Below.refl _ _ | refine below_next (by with_reducible assumption) ?_))).cell
    have cA := (carryK (w' := w20) kA (by repeat (first | with_reducible assumption | exact Below.refl _ _ | refine below_next (by with_reducible assumption) ?_))).cell
    have cB := (carryK (w' := w20) kB (by repeat (first | with_reducible assumption | exact Below.refl _ _ | refine below_next (by with_reducible assumption) ?_))).cell
    have cC := (carryK (w' := w20) kC (by repeat (first | with_reducible assumption | exact Below.refl _ _ | refine below_next (by with_reducible assumption) ?_))).cell
    have cL := (carryK (w' := w20) kL (by repeat (first | with_reducible assumption | exact Below.refl _ _ | refine below_next (by with_reducible assumption) ?_))).cell
    go_wp2_with fail
    refine (rLossless_any A n c l _ (carry hR (by repeat (first | with_reducible assumption | exact Below.refl _ _ | refine below_next (by with_reducible assumption) ?_))) (by omega)).mono ?_
    rintro e w40 ⟨rfl, hb40⟩
    rw [HB.out]
    clear cX cY cZ cV cA cB cC cL
    go_wp2_with fail
    refine (awake_any _ (hV.con.carry (by repeat (first | with_reducible assumption | exact Below.refl _ _ | refine below_next (by with_reducible assumption) ?_))) (hV.tur.carry (by repeat (first | with_reducible assumption | exact Below.refl _ _ | refine below_next (by with_reducible assumption) ?_))) (hV.ten.carry (by repeat (first | with_reducible assumption | exact Below.refl _ _ | refine below_next (by with_reducible assumption) ?_)))).mono ?_
    rintro e wz ⟨rfl, hbz⟩
    go_wp2_with fail
    go_ret
    exact ⟨rfl, (by repeat (first | with_reducible assumption | exact Below.refl _ _ | refine below_next (by with_reducible assumption) ?_))⟩
  · have HO := hide ho
    have hbf : b = false := by rw [hb]; simp [hO]
    have g0 : (O == 0) = false := by simpa using hO
    subst hbf
    clear ho hb hO
    go_enter Tryz.func7, Tryz.ntmps7
    go_wp2_with fail
    refine (rShort_any A n c l _ hR).mono ?_
    rintro e w1 ⟨rfl, hb1⟩
    rw [HS.out]
    go_wp2_with fail
    refine (ladder_lad A n c l _ (carry hR (by repeat (first | with_reducible assumption | exact Below.refl _ _ | refine below_next (by with_reducible assumption) ?_))) (by omega)).mono ?_
    rintro e w2 ⟨A2, cA2, rfl, rA2, hbw2⟩
    go_wp2_with fail
    refine (HI.out.inp A2 cA2 _ (hV.con.carry (by repeat (first | with_reducible assumption | exact Below.refl _ _ | refine below_next (by with_reducible assumption) ?_))) rA2).mono ?_
    rintro e w3 ⟨rfl, hbw3⟩
    go_upto_region 4 with (fail)
    obtain ⟨w4, ew4, hbw4, hzw4, kX⟩ := box1 w3 #[.int .i64 (x).n.re, .int .i64 (x).n.im, .int .i64 (x).d.re, .int .i64 (x).d.im] 32
    rw [← ew4]; clear ew4
    go_wp2_with fail
    refine (ladder_lad A n c l _ (carry hR (by repeat (first | with_reducible assumption | exact Below.refl _ _ | refine below_next (by with_reducible assumption) ?_))) (by omega)).mono ?_
    rintro e w5 ⟨A5, cA5, rfl, rA5, hbw5⟩
    go_wp2_with fail
    refine (HI.out.sho A5 cA5 _ (hV.con.carry (by repeat (first | with_reducible assumption | exact Below.refl _ _ | refine below_next (by with_reducible assumption) ?_))) rA5).mono ?_
    rintro e w6 ⟨rfl, hbw6⟩
    go_upto_region 5 with (fail)
    obtain ⟨w7, ew7, hbw7, hzw7, kY⟩ := box1 w6 #[.int .i64 (y).n.re, .int .i64 (y).n.im, .int .i64 (y).d.re, .int .i64 (y).d.im] 32
    rw [← ew7]; clear ew7
    go_wp2_with fail
    refine (ladder_lad A n c l _ (carry hR (by repeat (first | with_reducible assumption | exact Below.refl _ _ | refine below_next (by with_reducible assumption) ?_))) (by omega)).mono ?_
    rintro e w8 ⟨A8, cA8, rfl, rA8, hbw8⟩
    go_wp2_with fail
    refine (HI.out.tra A8 cA8 _ (hV.con.carry (by repeat (first | with_reducible assumption | exact Below.refl _ _ | refine below_next (by with_reducible assumption) ?_))) rA8).mono ?_
    rintro e w9 ⟨rfl, hbw9⟩
    go_upto_region 6 with (fail)
    obtain ⟨w10, ew10, hbw10, hzw10, kZ⟩ := box1 w9 #[.int .i64 (z).n.re, .int .i64 (z).n.im, .int .i64 (z).d.re, .int .i64 (z).d.im] 32
    rw [← ew10]; clear ew10
    go_wp2_with fail
    refine (ladder_lad A n c l _ (carry hR (by repeat (first | with_reducible assumption | exact Below.refl _ _ | refine below_next (by with_reducible assumption) ?_))) (by omega)).mono ?_
    rintro e w11 ⟨A11, cA11, rfl, rA11, hbw11⟩
    go_wp2_with fail
    refine (HI.out.lev A11 cA11 _ (hV.con.carry (by repeat (first | with_reducible assumption | exact Below.refl _ _ | refine below_next (by with_reducible assumption) ?_))) rA11).mono ?_
    rintro e w12 ⟨rfl, hb12⟩
    go_upto_region 7 with (fail)
    obtain ⟨w13, e13, hb13, hz13, kV⟩ := box1 w12 #[.int .i64 (v).n, .int .i64 (v).d] 54
    rw [← e13]; clear e13
    go_wp2_with fail
    refine (ladder_lad A n c l _ (carry hR (by repeat (first | with_reducible assumption | exact Below.refl _ _ | refine below_next (by with_reducible assumption) ?_))) (by omega)).mono ?_
    rintro e w14 ⟨A14, cA14, rfl, rA14, hbw14⟩
    go_wp2_with fail
    refine (HI.out.pow A14 cA14 _ (hV.con.carry (by repeat (first | with_reducible assumption | exact Below.refl _ _ | refine below_next (by with_reducible assumption) ?_))) rA14).mono ?_
    rintro e w15 ⟨rfl, hb15⟩
    go_wp2_with fail
    refine (ladder_lad A n c l _ (carry hR (by repeat (first | with_reducible assumption | exact Below.refl _ _ | refine below_next (by with_reducible assumption) ?_))) (by omega)).mono ?_
    rintro e w16 ⟨A16, cA16, rfl, rA16, hbw16⟩
    go_wp2_with fail
    refine (HI.out.los A16 cA16 _ rA16).mono ?_
    rintro e w17 ⟨rfl, hb17⟩
    go_wp2_with fail
    refine (rCheckAt_any A n c l f _ (carry hR (by repeat (first | with_reducible assumption | exact Below.refl _ _ | refine below_next (by with_reducible assumption) ?_)))).mono ?_
    rintro e w18 ⟨rfl, hb18⟩
    rw [HE.out]
    go_wp2_with fail
    refine (rCheckLadder_all A n c l _ (carry hR (by repeat (first | with_reducible assumption | exact Below.refl _ _ | refine below_next (by with_reducible assumption) ?_)))).mono ?_
    rintro e w19 ⟨rfl, hb19⟩
    rw [HO.out]
    go_upto_region 13 with (fail)
    obtain ⟨w20, e20, hb20, hz20, kA, kB, kC, kL⟩ := box4 w19 #[.int .i64 0, .int .i64 0, .int .i64 0, .int .i64 0] #[.int .i64 0, .int .i64 0, .int .i64 0, .int .i64 0] #[.int .i64 0, .int .i64 0, .int .i64 0, .int .i64 0] #[.int .i64 0, .int .i64 0] 25 25 25 54
    rw [← e20]; clear e20
    have cX := (carryK (w' := w20) kX (by repeat (first | with_reducible assumption | exact Below.refl _ _ | refine below_next (by with_reducible assumption) ?_))).cell
    have cY := (carryK (w' := w20) kY (by repeat (first | with_reducible assumption | exact Below.refl _ _ | refine below_next (by with_reducible assumption) ?_))).cell
    have cZ := (carryK (w' := w20) kZ (by repeat (first | with_reducible assumption | exact Below.refl _ _ | refine below_next (by with_reducible assumption) ?_))).cell
    have cV := (carryK (w' := w20) kV (by repeat (first | with_reducible assumption | exact Below.refl _ _ | refine below_next (by with_reducible assumption) ?_))).cell
    have cA := (carryK (w' := w20) kA (by repeat (first | with_reducible assumption | exact Below.refl _ _ | refine below_next (by with_reducible assumption) ?_))).cell
    have cB := (carryK (w' := w20) kB (by repeat (first | with_reducible assumption | exact Below.refl _ _ | refine below_next (by with_reducible assumption) ?_))).cell
    have cC := (carryK (w' := w20) kC (by repeat (first | with_reducible assumption | exact Below.refl _ _ | refine below_next (by with_reducible assumption) ?_))).cell
    have cL := (carryK (w' := w20) kL (by repeat (first | with_reducible assumption | exact Below.refl _ _ | refine below_next (by with_reducible assumption) ?_))).cell
    go_wp2_with fail
    clear cX cY cZ cV cA cB cC cL
    refine (awake_any _ (hV.con.carry (by repeat (first | with_reducible assumption | exact Below.refl _ _ | refine below_next (by with_reducible assumption) ?_))) (hV.tur.carry (by repeat (first | with_reducible assumption | exact Below.refl _ _ | refine below_next (by with_reducible assumption) ?_))) (hV.ten.carry (by repeat (first | with_reducible assumption | exact Below.refl _ _ | refine below_next (by with_reducible assumption) ?_)))).mono ?_
    rintro e wz ⟨rfl, hbz⟩
    go_wp2_with fail
    go_ret
    exact ⟨rfl, (by repeat (first | with_reducible assumption | exact Below.refl _ _ | refine below_next (by with_reducible assumption) ?_))⟩
/-- What the reference's functions return where there is no error. -/
structure ImpR (A : Option Addr) (n c : Nat) (l : List El) (f : Int) (x y z : Pr) (v : Rt) (p : Int) (e1 e2 e3 e4 : Int) : Prop where
  inp : ∀ w, Reads w w.heap.size 3 A n (els l) → Calls Tryz.prog 53 #[.slice A n c, .int .i64 f] w fun e w' => e = .returned (.tuple #[.agg #[.int .i64 x.n.re, .int .i64 x.n.im, .int .i64 x.d.re, .int .i64 x.d.im], .int .i64 e1]) ∧ Below w.heap.size w w'
  sho : ∀ w, Reads w w.heap.size 3 A n (els l) → Calls Tryz.prog 54 #[.slice A n c, .int .i64 f] w fun e w' => e = .returned (.tuple #[.agg #[.int .i64 y.n.re, .int .i64 y.n.im, .int .i64 y.d.re, .int .i64 y.d.im], .int .i64 e2]) ∧ Below w.heap.size w w'
  tra : ∀ w, Reads w w.heap.size 3 A n (els l) → Calls Tryz.prog 55 #[.slice A n c, .int .i64 f] w fun e w' => e = .returned (.tuple #[.agg #[.int .i64 z.n.re, .int .i64 z.n.im, .int .i64 z.d.re, .int .i64 z.d.im], .int .i64 e3]) ∧ Below w.heap.size w w'
  lev : ∀ w, Reads w w.heap.size 3 A n (els l) → Calls Tryz.prog 56 #[.slice A n c, .int .i64 f] w fun e w' => e = .returned (.tuple #[.agg #[.int .i64 v.n, .int .i64 v.d], .int .i64 e4]) ∧ Below w.heap.size w w'
  pow : ∀ w, Reads w w.heap.size 3 A n (els l) → Calls Tryz.prog 57 #[.slice A n c, .int .i64 f] w fun e w' => e = .returned (.int .i64 p) ∧ Below w.heap.size w w'
set_option maxHeartbeats 8000000 in
theorem lawImp_good (A : Option Addr) (n c : Nat) (l : List El) (f : Int) (w : World) (hV : VarsN w) (hR : Reads w w.heap.size 3 A n (els l)) (hs : shortB l = true) (he : atErr l f = 0) (ho : ladErr l = 0) (x y z : Pr) (v : Rt) (p : Int) (e1 e2 e3 e4 : Int) (b : Bool) (hI : Imp A n l f x y z v p b e1 e2 e3 e4 0 0) (hJ : ImpR A n c l f x y z v p e1 e2 e3 e4) (hb : lossB l = b) :
    Calls Tryz.prog 7 #[.slice A n c, .int .i64 f] w fun e w' => e = .returned (.bool true) ∧ Below w.heap.size w w' := by
  have hn6 := shortI hR hs
  have HS := hide hs
  have HE := hide he
  have HO := hide ho
  have HI := hide hI
  have HJ := hide hJ
  have HB := hide hb
  have t0 : ((0 : Int) == 0) = true := rfl
  have qX := fun W => reflPrR_eq x W
  have qY := fun W => reflPrR_eq y W
  have qZ := fun W => reflPrR_eq z W
  have qV := fun W => reflR_eq v W
  clear hs he ho hI hJ hb
  go_enter Tryz.func7, Tryz.ntmps7
  go_wp2_with fail
  refine (rShort_any A n c l _ hR).mono ?_
  rintro e w1 ⟨rfl, hb1⟩
  rw [HS.out]
  go_wp2_with fail
  refine (ladder_lad A n c l _ (carry hR (by repeat (first | with_reducible assumption | exact Below.refl _ _ | refine below_next (by with_reducible assumption) ?_))) (by omega)).mono ?_
  rintro e w2 ⟨A2, cA2, rfl, rA2, hbw2⟩
  go_wp2_with fail
  refine (HI.out.inp A2 cA2 _ (hV.con.carry (by repeat (first | with_reducible assumption | exact Below.refl _ _ | refine below_next (by with_reducible assumption) ?_))) rA2).mono ?_
  rintro e w3 ⟨rfl, hbw3⟩
  go_upto_region 4 with (fail)
  obtain ⟨w4, ew4, hbw4, hzw4, kX⟩ := box1 w3 #[.int .i64 (x).n.re, .int .i64 (x).n.im, .int .i64 (x).d.re, .int .i64 (x).d.im] 32
  rw [← ew4]; clear ew4
  go_wp2_with fail
  refine (ladder_lad A n c l _ (carry hR (by repeat (first | with_reducible assumption | exact Below.refl _ _ | refine below_next (by with_reducible assumption) ?_))) (by omega)).mono ?_
  rintro e w5 ⟨A5, cA5, rfl, rA5, hbw5⟩
  go_wp2_with fail
  refine (HI.out.sho A5 cA5 _ (hV.con.carry (by repeat (first | with_reducible assumption | exact Below.refl _ _ | refine below_next (by with_reducible assumption) ?_))) rA5).mono ?_
  rintro e w6 ⟨rfl, hbw6⟩
  go_upto_region 5 with (fail)
  obtain ⟨w7, ew7, hbw7, hzw7, kY⟩ := box1 w6 #[.int .i64 (y).n.re, .int .i64 (y).n.im, .int .i64 (y).d.re, .int .i64 (y).d.im] 32
  rw [← ew7]; clear ew7
  go_wp2_with fail
  refine (ladder_lad A n c l _ (carry hR (by repeat (first | with_reducible assumption | exact Below.refl _ _ | refine below_next (by with_reducible assumption) ?_))) (by omega)).mono ?_
  rintro e w8 ⟨A8, cA8, rfl, rA8, hbw8⟩
  go_wp2_with fail
  refine (HI.out.tra A8 cA8 _ (hV.con.carry (by repeat (first | with_reducible assumption | exact Below.refl _ _ | refine below_next (by with_reducible assumption) ?_))) rA8).mono ?_
  rintro e w9 ⟨rfl, hbw9⟩
  go_upto_region 6 with (fail)
  obtain ⟨w10, ew10, hbw10, hzw10, kZ⟩ := box1 w9 #[.int .i64 (z).n.re, .int .i64 (z).n.im, .int .i64 (z).d.re, .int .i64 (z).d.im] 32
  rw [← ew10]; clear ew10
  go_wp2_with fail
  refine (ladder_lad A n c l _ (carry hR (by repeat (first | with_reducible assumption | exact Below.refl _ _ | refine below_next (by with_reducible assumption) ?_))) (by omega)).mono ?_
  rintro e w11 ⟨A11, cA11, rfl, rA11, hbw11⟩
  go_wp2_with fail
  refine (HI.out.lev A11 cA11 _ (hV.con.carry (by repeat (first | with_reducible assumption | exact Below.refl _ _ | refine below_next (by with_reducible assumption) ?_))) rA11).mono ?_
  rintro e w12 ⟨rfl, hb12⟩
  go_upto_region 7 with (fail)
  obtain ⟨w13, e13, hb13, hz13, kV⟩ := box1 w12 #[.int .i64 (v).n, .int .i64 (v).d] 54
  rw [← e13]; clear e13
  go_wp2_with fail
  refine (ladder_lad A n c l _ (carry hR (by repeat (first | with_reducible assumption | exact Below.refl _ _ | refine below_next (by with_reducible assumption) ?_))) (by omega)).mono ?_
  rintro e w14 ⟨A14, cA14, rfl, rA14, hbw14⟩
  go_wp2_with fail
  refine (HI.out.pow A14 cA14 _ (hV.con.carry (by repeat (first | with_reducible assumption | exact Below.refl _ _ | refine below_next (by with_reducible assumption) ?_))) rA14).mono ?_
  rintro e w15 ⟨rfl, hb15⟩
  go_wp2_with fail
  refine (ladder_lad A n c l _ (carry hR (by repeat (first | with_reducible assumption | exact Below.refl _ _ | refine below_next (by with_reducible assumption) ?_))) (by omega)).mono ?_
  rintro e w16 ⟨A16, cA16, rfl, rA16, hbw16⟩
  go_wp2_with fail
  refine (HI.out.los A16 cA16 _ rA16).mono ?_
  rintro e w17 ⟨rfl, hb17⟩
  go_wp2_with fail
  refine (rCheckAt_any A n c l f _ (carry hR (by repeat (first | with_reducible assumption | exact Below.refl _ _ | refine below_next (by with_reducible assumption) ?_)))).mono ?_
  rintro e w18 ⟨rfl, hb18⟩
  rw [HE.out]
  go_wp2_with fail
  refine (rCheckLadder_all A n c l _ (carry hR (by repeat (first | with_reducible assumption | exact Below.refl _ _ | refine below_next (by with_reducible assumption) ?_)))).mono ?_
  rintro e w19 ⟨rfl, hb19⟩
  rw [HO.out]
  go_upto_region 13 with (fail)
  obtain ⟨w20, e20, hb20, hz20, kA, kB, kC, kL⟩ := box4 w19 #[.int .i64 0, .int .i64 0, .int .i64 0, .int .i64 0] #[.int .i64 0, .int .i64 0, .int .i64 0, .int .i64 0] #[.int .i64 0, .int .i64 0, .int .i64 0, .int .i64 0] #[.int .i64 0, .int .i64 0] 25 25 25 54
  rw [← e20]; clear e20
  have hbq := hb20
  clear hb20
  go_wp2_with fail
  refine (HJ.out.inp _ (carry hR (by repeat (first | with_reducible assumption | exact Below.refl _ _ | refine below_next (by with_reducible assumption) ?_)))).mono ?_
  rintro e w21 ⟨rfl, hbw21⟩
  have kA' := carryK (w' := w21) kA (by repeat (first | with_reducible assumption | exact Below.refl _ _ | refine below_next (by with_reducible assumption) ?_))
  have kB' := carryK (w' := w21) kB (by repeat (first | with_reducible assumption | exact Below.refl _ _ | refine below_next (by with_reducible assumption) ?_))
  have kC' := carryK (w' := w21) kC (by repeat (first | with_reducible assumption | exact Below.refl _ _ | refine below_next (by with_reducible assumption) ?_))
  have kL' := carryK (w' := w21) kL (by repeat (first | with_reducible assumption | exact Below.refl _ _ | refine below_next (by with_reducible assumption) ?_))
  clear kA kB kC kL
  obtain ⟨X21, eX, kA, _, hfX, hBX, _⟩ := set4 w21 (w19.heap.size) 25 _ _ _ _ (.int .i64 (x).n.re) (.int .i64 (x).n.im) (.int .i64 (x).d.re) (.int .i64 (x).d.im) kA'
  have kB := hfX _ _ _ (by omega) kB'
  have kC := hfX _ _ _ (by omega) kC'
  have kL := hfX _ _ _ (by omega) kL'
  have hbq' : Below w19.heap.size w19 w21 := below_next hbq hbw21
  have hbq2 : Below w19.heap.size w19 X21 := below_step hbq' (hBX w19.heap.size (by omega)) (Nat.le_refl _)
  clear hbq
  have hbq := hbq2
  have cA := kA'.cell
  have fA := kA'.frozen
  clear hbq2 hbq' hbw21 hfX hBX
  go_wp2_with fail
  rw [← eX]
  clear eX cA fA kA' kB' kC' kL'
  refine (HJ.out.sho _ (carry hR (by repeat (first | with_reducible assumption | exact Below.refl _ _ | refine below_next (by with_reducible assumption) ?_)))).mono ?_
  rintro e w22 ⟨rfl, hbw22⟩
  have kA' := carryK (w' := w22) kA (by repeat (first | with_reducible assumption | exact Below.refl _ _ | refine below_next (by with_reducible assumption) ?_))
  have kB' := carryK (w' := w22) kB (by repeat (first | with_reducible assumption | exact Below.refl _ _ | refine below_next (by with_reducible assumption) ?_))
  have kC' := carryK (w' := w22) kC (by repeat (first | with_reducible assumption | exact Below.refl _ _ | refine below_next (by with_reducible assumption) ?_))
  have kL' := carryK (w' := w22) kL (by repeat (first | with_reducible assumption | exact Below.refl _ _ | refine below_next (by with_reducible assumption) ?_))
  clear kA kB kC kL
  obtain ⟨X22, eX, kB, _, hfX, hBX, _⟩ := set4 w22 (w19.heap.size + 1) 25 _ _ _ _ (.int .i64 (y).n.re) (.int .i64 (y).n.im) (.int .i64 (y).d.re) (.int .i64 (y).d.im) kB'
  have kA := hfX _ _ _ (by omega) kA'
  have kC := hfX _ _ _ (by omega) kC'
  have kL := hfX _ _ _ (by omega) kL'
  have hbq' : Below w19.heap.size w19 w22 := below_next hbq hbw22
  have hbq2 : Below w19.heap.size w19 X22 := below_step hbq' (hBX w19.heap.size (by omega)) (Nat.le_refl _)
  clear hbq
  have hbq := hbq2
  have cB := kB'.cell
  have fB := kB'.frozen
  clear hbq2 hbq' hbw22 hfX hBX
  go_wp2_with fail
  rw [← eX]
  clear eX cB fB kA' kB' kC' kL'
  refine (HJ.out.tra _ (carry hR (by repeat (first | with_reducible assumption | exact Below.refl _ _ | refine below_next (by with_reducible assumption) ?_)))).mono ?_
  rintro e w23 ⟨rfl, hbw23⟩
  have kA' := carryK (w' := w23) kA (by repeat (first | with_reducible assumption | exact Below.refl _ _ | refine below_next (by with_reducible assumption) ?_))
  have kB' := carryK (w' := w23) kB (by repeat (first | with_reducible assumption | exact Below.refl _ _ | refine below_next (by with_reducible assumption) ?_))
  have kC' := carryK (w' := w23) kC (by repeat (first | with_reducible assumption | exact Below.refl _ _ | refine below_next (by with_reducible assumption) ?_))
  have kL' := carryK (w' := w23) kL (by repeat (first | with_reducible assumption | exact Below.refl _ _ | refine below_next (by with_reducible assumption) ?_))
  clear kA kB kC kL
  obtain ⟨X23, eX, kC, _, hfX, hBX, _⟩ := set4 w23 (w19.heap.size + 2) 25 _ _ _ _ (.int .i64 (z).n.re) (.int .i64 (z).n.im) (.int .i64 (z).d.re) (.int .i64 (z).d.im) kC'
  have kA := hfX _ _ _ (by omega) kA'
  have kB := hfX _ _ _ (by omega) kB'
  have kL := hfX _ _ _ (by omega) kL'
  have hbq' : Below w19.heap.size w19 w23 := below_next hbq hbw23
  have hbq2 : Below w19.heap.size w19 X23 := below_step hbq' (hBX w19.heap.size (by omega)) (Nat.le_refl _)
  clear hbq
  have hbq := hbq2
  have cC := kC'.cell
  have fC := kC'.frozen
  clear hbq2 hbq' hbw23 hfX hBX
  go_wp2_with fail
  rw [← eX]
  clear eX cC fC kA' kB' kC' kL'
  refine (HJ.out.lev _ (carry hR (by repeat (first | with_reducible assumption | exact Below.refl _ _ | refine below_next (by with_reducible assumption) ?_)))).mono ?_
  rintro e w24 ⟨rfl, hb24⟩
  have kA' := carryK (w' := w24) kA (by repeat (first | with_reducible assumption | exact Below.refl _ _ | refine below_next (by with_reducible assumption) ?_))
  have kB' := carryK (w' := w24) kB (by repeat (first | with_reducible assumption | exact Below.refl _ _ | refine below_next (by with_reducible assumption) ?_))
  have kC' := carryK (w' := w24) kC (by repeat (first | with_reducible assumption | exact Below.refl _ _ | refine below_next (by with_reducible assumption) ?_))
  have kL' := carryK (w' := w24) kL (by repeat (first | with_reducible assumption | exact Below.refl _ _ | refine below_next (by with_reducible assumption) ?_))
  clear kA kB kC kL
  have hbq' : Below w19.heap.size w19 w24 := below_next hbq hb24
  clear hbq hb24
  have cL := kL'.cell
  have fL := kL'.frozen
  go_wp2_with fail
  have kL := blk2 (u0 := .int .i64 v.n) (u1 := .int .i64 v.d) kL'
  have kA := far2 (g := w19.heap.size + 3) (u0 := .int .i64 v.n) (u1 := .int .i64 v.d) kA' (by omega)
  have kB := far2 (g := w19.heap.size + 3) (u0 := .int .i64 v.n) (u1 := .int .i64 v.d) kB' (by omega)
  have kC := far2 (g := w19.heap.size + 3) (u0 := .int .i64 v.n) (u1 := .int .i64 v.d) kC' (by omega)
  have hbq := below2 (g := w19.heap.size + 3) (u0 := .int .i64 v.n) (u1 := .int .i64 v.d) hbq' (by omega)
  obtain ⟨X24, eX⟩ : ∃ W, W = (w24.setCell ⟨w19.heap.size + 3, 0, none⟩ (.int .i64 v.n)).setCell ⟨w19.heap.size + 3, 1, none⟩ (.int .i64 v.d) := ⟨_, rfl⟩
  rw [← eX] at kA kB kC kL hbq ⊢
  clear eX cL fL kA' kB' kC' kL' hbq'
  refine (HJ.out.pow _ (carry hR (by repeat (first | with_reducible assumption | exact Below.refl _ _ | refine below_next (by with_reducible assumption) ?_)))).mono ?_
  rintro e w25 ⟨rfl, hb25⟩
  have cX := (carryK (w' := w25) kX (by repeat (first | with_reducible assumption | exact Below.refl _ _ | refine below_next (by with_reducible assumption) ?_))).cell
  have cY := (carryK (w' := w25) kY (by repeat (first | with_reducible assumption | exact Below.refl _ _ | refine below_next (by with_reducible assumption) ?_))).cell
  have cZ := (carryK (w' := w25) kZ (by repeat (first | with_reducible assumption | exact Below.refl _ _ | refine below_next (by with_reducible assumption) ?_))).cell
  have cV := (carryK (w' := w25) kV (by repeat (first | with_reducible assumption | exact Below.refl _ _ | refine below_next (by with_reducible assumption) ?_))).cell
  have cA := (carryK (w' := w25) kA (by repeat (first | with_reducible assumption | exact Below.refl _ _ | refine below_next (by with_reducible assumption) ?_))).cell
  have cB := (carryK (w' := w25) kB (by repeat (first | with_reducible assumption | exact Below.refl _ _ | refine below_next (by with_reducible assumption) ?_))).cell
  have cC := (carryK (w' := w25) kC (by repeat (first | with_reducible assumption | exact Below.refl _ _ | refine below_next (by with_reducible assumption) ?_))).cell
  have cL := (carryK (w' := w25) kL (by repeat (first | with_reducible assumption | exact Below.refl _ _ | refine below_next (by with_reducible assumption) ?_))).cell
  go_wp2_with fail
  refine (rLossless_any A n c l _ (carry hR (by repeat (first | with_reducible assumption | exact Below.refl _ _ | refine below_next (by with_reducible assumption) ?_))) (by omega)).mono ?_
  rintro e w40 ⟨rfl, hb40⟩
  rw [HB.out]
  clear cX cY cZ cV cA cB cC cL
  go_wp2_with fail
  refine (awake_any _ (hV.con.carry (by repeat (first | with_reducible assumption | exact Below.refl _ _ | refine below_next (by with_reducible assumption) ?_))) (hV.tur.carry (by repeat (first | with_reducible assumption | exact Below.refl _ _ | refine below_next (by with_reducible assumption) ?_))) (hV.ten.carry (by repeat (first | with_reducible assumption | exact Below.refl _ _ | refine below_next (by with_reducible assumption) ?_)))).mono ?_
  rintro e wz ⟨rfl, hbz⟩
  go_wp2_with fail
  go_ret
  exact ⟨rfl, (by repeat (first | with_reducible assumption | exact Below.refl _ _ | refine below_next (by with_reducible assumption) ?_))⟩
theorem lawImp_any (A : Option Addr) (n c : Nat) (l : List El) (f : Int) (w : World) (hV : VarsN w) (hR : Reads w w.heap.size 3 A n (els l)) :
    Calls Tryz.prog 7 #[.slice A n c, .int .i64 f] w fun e w' => e = .returned (.bool true) ∧ Below w.heap.size w w' := by
  by_cases hs : shortB l = true
  · have hn6 := shortI hR hs
    have hlo : ∀ A c w, Reads w w.heap.size 3 A n (els l) → Calls Tryz.prog 52 #[.slice A n c] w fun e w' => e = .returned (.tuple #[.bool (decide (ladErr l = 0) && lossB l), .int .i64 (ladErr l)]) ∧ Below w.heap.size w w' := by
      intro A c w hR
      by_cases h0 : ladErr l = 0
      · rw [h0]; simpa using Lossless_ok A n c l w h0 hR (by omega)
      · have := Lossless_bad l A n c w h0 (by omega) hR
        simpa [h0] using this
    by_cases he : atErr l f = 0
    · obtain ⟨hl, f1, f8⟩ := at_zero he
      have h0 := ok_lad hl
      have hin := lv_in hl f1 f8
      by_cases hz : (chn f .id l).a = .zero
      · refine lawImp_good A n c l f w hV hR hs he h0 (quo (chn f .id l).a (chn f .id l).c) (quo (chn f .id l).b (chn f .id l).d) (quo (dvs f .one l) (chn f .id l).a) ⟨0, 0⟩ (pw (chn f .id l).a (chn f .id l).c) (quoE (chn f .id l).c) (quoE (chn f .id l).d) (quoE (chn f .id l).a) 17 (lossB l) ?_ ?_ rfl
        · exact ⟨fun A c w hC hR => Input_ok l f A n c w hC he (by omega) hR, fun A c w hC hR => Shorted_ok l f A n c w hC he (by omega) hR, fun A c w hC hR => Transfer_ok l f A n c w hC he (by omega) hR, fun A c w hC hR => Level_no l f A n c w hC he (by omega) hR hz, fun A c w hC hR => Power_ok l f A n c w hC he (by omega) hR, fun A c w hR => Lossless_ok A n c l w h0 hR (by omega)⟩
        · exact ⟨fun w hR => rInput_ok l f A n c w hl f1 f8 hR, fun w hR => rShorted_ok l f A n c w hl f1 f8 hR, fun w hR => rTransfer_ok l f A n c w hl f1 f8 hR, fun w hR => rLevel_no l f A n c w hl f1 f8 hR hz, fun w hR => rPower_ok l f A n c w hl f1 f8 hR⟩
      · refine lawImp_good A n c l f w hV hR hs he h0 (quo (chn f .id l).a (chn f .id l).c) (quo (chn f .id l).b (chn f .id l).d) (quo (dvs f .one l) (chn f .id l).a) (lvR l f) (pw (chn f .id l).a (chn f .id l).c) (quoE (chn f .id l).c) (quoE (chn f .id l).d) (quoE (chn f .id l).a) 0 (lossB l) ?_ ?_ rfl
        · exact ⟨fun A c w hC hR => Input_ok l f A n c w hC he (by omega) hR, fun A c w hC hR => Shorted_ok l f A n c w hC he (by omega) hR, fun A c w hC hR => Transfer_ok l f A n c w hC he (by omega) hR, fun A c w hC hR => Level_ok l f A n c w hC he (by omega) hR hz, fun A c w hC hR => Power_ok l f A n c w hC he (by omega) hR, fun A c w hR => Lossless_ok A n c l w h0 hR (by omega)⟩
        · exact ⟨fun w hR => rInput_ok l f A n c w hl f1 f8 hR, fun w hR => rShorted_ok l f A n c w hl f1 f8 hR, fun w hR => rTransfer_ok l f A n c w hl f1 f8 hR, fun w hR => rLevel_ok l f A n c w hl f1 f8 hR hz, fun w hR => rPower_ok l f A n c w hl f1 f8 hR⟩
    · refine lawImp_bad A n c l f w hV hR hs (atErr l f) (ladErr l) rfl rfl he .zero .zero .zero ⟨0, 0⟩ rfl rfl rfl rfl (decide (ladErr l = 0) && lossB l) ?_ rfl
      exact ⟨fun A c w _ hR => Input_bad l f A n c w he (by omega) hR, fun A c w _ hR => Shorted_bad l f A n c w he (by omega) hR, fun A c w _ hR => Transfer_bad l f A n c w he (by omega) hR, fun A c w _ hR => Level_bad l f A n c w he (by omega) hR, fun A c w _ hR => Power_bad l f A n c w he (by omega) hR, hlo⟩
  · exact lawImp_long A n c l f w hV hR (by simpa using hs)
end Go.Proofs.YtnndaipnfniciaaGreatDoor
