/- The law NetworkNumbers. -/
import Derived.Test.YtnndaipnfniciaaGreatDoorNAwk
import Derived.Test.YtnndaipnfniciaaGreatDoorNRVal
import Derived.Test.YtnndaipnfniciaaGreatDoorNRNb
import Derived.Test.YtnndaipnfniciaaGreatDoorNCopy
import Derived.Test.YtnndaipnfniciaaGreatDoorNEqs
import Derived.Test.YtnndaipnfniciaaGreatDoorNLiftN
namespace Go.Proofs.YtnndaipnfniciaaGreatDoor
open Go.RowKit Go.Shelf
set_option maxRecDepth 100000
/-- What the program's functions return. -/
structure Nbs (p : Pr) (l : List Int) (f : Int) (m r i : Nat) (E1 E2 : Int) (V : G) : Prop where
  num : ∀ w, Con w → Calls Tryz.prog 15 #[.agg #[.int .i64 p.n.re, .int .i64 p.n.im, .int .i64 p.d.re, .int .i64 p.d.im]] w fun e w' => e = .returned (.tuple #[.complex .f64 r i, .int .i64 E1]) ∧ Below w.heap.size w w'
  val : ∀ A c w, Con w → Tur w → Reads w w.heap.size 1 A m (ints l) → Calls Tryz.prog 16 #[.slice A m c, .int .i64 f] w fun e w' => e = .returned (.tuple #[.agg #[.int .i64 V.re, .int .i64 V.im], .int .i64 E2]) ∧ Below w.heap.size w w'
set_option maxHeartbeats 8000000 in
theorem lawNum_long (p : Pr) (A : Option Addr) (m c : Nat) (l : List Int) (f : Int) (w : World) (hV : VarsN w) (_hR : Reads w w.heap.size 1 A m (ints l)) (hm : 8 < m) :
    Calls Tryz.prog 3 #[.agg #[.int .i64 p.n.re, .int .i64 p.n.im, .int .i64 p.d.re, .int .i64 p.d.im], .slice A m c, .int .i64 f] w fun e w' => e = .returned (.bool true) ∧ Below w.heap.size w w' := by
  have g8 : (8 : Int) < (m : Int) := by omega
  clear hm
  go_enter Tryz.func3, Tryz.ntmps3
  go_upto_region 1 with (fail)
  obtain ⟨w1, e1, hb1, hz1, k0⟩ := box1 w #[.int .i64 p.n.re, .int .i64 p.n.im, .int .i64 p.d.re, .int .i64 p.d.im] 25
  rw [← e1]; clear e1
  go_wp2_with fail
  refine (awake_any _ (hV.con.carry (by repeat (first | with_reducible assumption | exact Below.refl _ _ | refine below_next (by with_reducible assumption) ?_))) (hV.tur.carry (by repeat (first | with_reducible assumption | exact Below.refl _ _ | refine below_next (by with_reducible assumption) ?_))) (hV.ten.carry (by repeat (first | with_reducible assumption | exact Below.refl _ _ | refine below_next (by with_reducible assumption) ?_)))).mono ?_
  rintro e wz ⟨rfl, hbz⟩
  go_wp2_with fail
  go_ret
  exact ⟨rfl, (by repeat (first | with_reducible assumption | exact Below.refl _ _ | refine below_next (by with_reducible assumption) ?_))⟩
set_option maxHeartbeats 8000000 in
theorem lawNum_bb (p : Pr) (A : Option Addr) (m c : Nat) (l : List Int) (f : Int) (w : World) (hV : VarsN w) (hR : Reads w w.heap.size 1 A m (ints l)) (hm : m ≤ 8) (E0 E2 : Int) (hI : Nbs p l f m 0 0 E0 E2 .zero) (h0 : numErr p = E0) (h2 : fnz [polErr l, rng f 1 8] = E2) (n0 : ¬ E0 = 0) (n2 : ¬ E2 = 0) :
    Calls Tryz.prog 3 #[.agg #[.int .i64 p.n.re, .int .i64 p.n.im, .int .i64 p.d.re, .int .i64 p.d.im], .slice A m c, .int .i64 f] w fun e w' => e = .returned (.bool true) ∧ Below w.heap.size w w' := by
  obtain ⟨V, hVz⟩ : ∃ V, G.zero = V := ⟨_, rfl⟩
  rw [hVz] at hI
  have t0 : (E0 == 0) = false := by simpa using n0
  have t2 : (E2 == 0) = false := by simpa using n2
  have HZ := hide hVz
  have qC : ∀ W, (binOp .eql 28 (.complex .f64 0 0) (.complex .f64 0 0)).run Tryz.prog W = .ok (.bool true) W := fun W => by rw [run_eql_complex]; rfl
  clear n0 n2 hVz
  have g8 : ¬ (8 : Int) < (m : Int) := by omega
  have HI := hide hI
  have H0 := hide h0
  have H2 := hide h2
  clear hI h0 h2
  go_enter Tryz.func3, Tryz.ntmps3
  go_upto_region 1 with (fail)
  obtain ⟨w1, e1, hb1, hz1, k0⟩ := box1 w #[.int .i64 p.n.re, .int .i64 p.n.im, .int .i64 p.d.re, .int .i64 p.d.im] 25
  rw [← e1]; clear e1
  have c0 := k0.cell
  go_wp2_with fail
  refine (HI.out.num _ (hV.con.carry (by repeat (first | with_reducible assumption | exact Below.refl _ _ | refine below_next (by with_reducible assumption) ?_)))).mono ?_
  rintro e w2 ⟨rfl, hb2⟩
  clear c0
  go_wp2_with (at_builtin; refine wpList_copied w2 rfl (.tmp 25) (.tmp 26) 26 (by rfl) 3 (.int .i64 0) 1 8 Tryz.underlying26 info_int rfl (by decide) (by decide) (by rfl) A m c (ints l) (by rfl) (carry hR (by repeat (first | with_reducible assumption | exact Below.refl _ _ | refine below_next (by with_reducible assumption) ?_))) (ints_one _) (by omega) ?_; intro A3 c3 w3 r3 hb3)
  go_wp2_with fail
  refine (HI.out.val A3 c3 _ (hV.con.carry (by repeat (first | with_reducible assumption | exact Below.refl _ _ | refine below_next (by with_reducible assumption) ?_))) (hV.tur.carry (by repeat (first | with_reducible assumption | exact Below.refl _ _ | refine below_next (by with_reducible assumption) ?_))) r3).mono ?_
  rintro e w4 ⟨rfl, hb4⟩
  go_upto_region 5 with (fail)
  obtain ⟨w5, e5, hb5, hz5, kV⟩ := box1 w4 #[.int .i64 V.re, .int .i64 V.im] 23
  rw [← e5]; clear e5
  have c0 := (carryK (w' := w5) k0 (by repeat (first | with_reducible assumption | exact Below.refl _ _ | refine below_next (by with_reducible assumption) ?_))).cell
  go_wp2_with fail
  refine (rCheckQuotient_any p _).mono ?_
  rintro e w6 ⟨rfl, hb6⟩
  rw [H0.out]
  clear c0
  go_wp2_with fail
  refine (rCheckPolynomial_any l A m c _ (by omega) (carry hR (by repeat (first | with_reducible assumption | exact Below.refl _ _ | refine below_next (by with_reducible assumption) ?_)))).mono ?_
  rintro e w7 ⟨rfl, hb7⟩
  go_upto_region 6 with (first | (go_at_call 20; refine (rCheckW_any _ _).mono ?_; rintro e W' ⟨rfl, rfl⟩) | (go_at_call 18; (first | (with_reducible (refine (rFirst_any _ _ _ _ _ _ (reads2 _ _ _ _) (by omega)).mono ?_)) | (with_reducible (refine (rFirst_any _ _ _ _ _ _ (Reads.drew (reads2 _ _ _ _)) (by omega)).mono ?_))); rintro e W' ⟨rfl, rfl⟩))
  obtain ⟨w8, e8, hb8, hz8, _⟩ := box1 w7 #[.int .i64 (polErr l), .int .i64 (rng f 1 8)] 3
  rw [← e8]; clear e8
  rw [H2.out]
  go_upto_region 8 with (fail)
  obtain ⟨w9, e9, hb9, hz9, kZ⟩ := box1 w8 #[.int .i64 0, .int .i64 0] 23
  rw [← e9]; clear e9
  have kZ2 : Blk w9 w8.heap.size 23 #[.int .i64 V.re, .int .i64 V.im] := by rw [← HZ.out]; exact kZ
  have cV := (carryK (w' := w9) kV (by repeat (first | with_reducible assumption | exact Below.refl _ _ | refine below_next (by with_reducible assumption) ?_))).cell
  have cZ := (carryK (w' := w9) kZ2 (by repeat (first | with_reducible assumption | exact Below.refl _ _ | refine below_next (by with_reducible assumption) ?_))).cell
  have qG := fun W => reflG_eq V W
  go_wp2_with fail
  clear cV cZ qG
  refine (awake_any _ (hV.con.carry (by repeat (first | with_reducible assumption | exact Below.refl _ _ | refine below_next (by with_reducible assumption) ?_))) (hV.tur.carry (by repeat (first | with_reducible assumption | exact Below.refl _ _ | refine below_next (by with_reducible assumption) ?_))) (hV.ten.carry (by repeat (first | with_reducible assumption | exact Below.refl _ _ | refine below_next (by with_reducible assumption) ?_)))).mono ?_
  rintro e wz ⟨rfl, hbz⟩
  go_wp2_with fail
  go_ret
  exact ⟨rfl, (by repeat (first | with_reducible assumption | exact Below.refl _ _ | refine below_next (by with_reducible assumption) ?_))⟩
set_option maxHeartbeats 8000000 in
theorem lawNum_bg (p : Pr) (A : Option Addr) (m c : Nat) (l : List Int) (f : Int) (w : World) (hV : VarsN w) (hR : Reads w w.heap.size 1 A m (ints l)) (hm : m ≤ 8) (E0 : Int) (V : G) (hI : Nbs p l f m 0 0 E0 0 V) (h0 : numErr p = E0) (h2 : fnz [polErr l, rng f 1 8] = 0) (n0 : ¬ E0 = 0) (hK : ∀ w, Reads w w.heap.size 1 A m (ints l) → Calls Tryz.prog 22 #[.slice A m c, .int .i64 f] w fun e w' => e = .returned (.agg #[.int .i64 V.re, .int .i64 V.im]) ∧ Below w.heap.size w w') :
    Calls Tryz.prog 3 #[.agg #[.int .i64 p.n.re, .int .i64 p.n.im, .int .i64 p.d.re, .int .i64 p.d.im], .slice A m c, .int .i64 f] w fun e w' => e = .returned (.bool true) ∧ Below w.heap.size w w' := by
  have t0 : (E0 == 0) = false := by simpa using n0
  have qC : ∀ W, (binOp .eql 28 (.complex .f64 0 0) (.complex .f64 0 0)).run Tryz.prog W = .ok (.bool true) W := fun W => by rw [run_eql_complex]; rfl
  have HK := hide hK
  clear n0 hK
  have g8 : ¬ (8 : Int) < (m : Int) := by omega
  have HI := hide hI
  have H0 := hide h0
  have H2 := hide h2
  clear hI h0 h2
  go_enter Tryz.func3, Tryz.ntmps3
  go_upto_region 1 with (fail)
  obtain ⟨w1, e1, hb1, hz1, k0⟩ := box1 w #[.int .i64 p.n.re, .int .i64 p.n.im, .int .i64 p.d.re, .int .i64 p.d.im] 25
  rw [← e1]; clear e1
  have c0 := k0.cell
  go_wp2_with fail
  refine (HI.out.num _ (hV.con.carry (by repeat (first | with_reducible assumption | exact Below.refl _ _ | refine below_next (by with_reducible assumption) ?_)))).mono ?_
  rintro e w2 ⟨rfl, hb2⟩
  clear c0
  go_wp2_with (at_builtin; refine wpList_copied w2 rfl (.tmp 25) (.tmp 26) 26 (by rfl) 3 (.int .i64 0) 1 8 Tryz.underlying26 info_int rfl (by decide) (by decide) (by rfl) A m c (ints l) (by rfl) (carry hR (by repeat (first | with_reducible assumption | exact Below.refl _ _ | refine below_next (by with_reducible assumption) ?_))) (ints_one _) (by omega) ?_; intro A3 c3 w3 r3 hb3)
  go_wp2_with fail
  refine (HI.out.val A3 c3 _ (hV.con.carry (by repeat (first | with_reducible assumption | exact Below.refl _ _ | refine below_next (by with_reducible assumption) ?_))) (hV.tur.carry (by repeat (first | with_reducible assumption | exact Below.refl _ _ | refine below_next (by with_reducible assumption) ?_))) r3).mono ?_
  rintro e w4 ⟨rfl, hb4⟩
  go_upto_region 5 with (fail)
  obtain ⟨w5, e5, hb5, hz5, kV⟩ := box1 w4 #[.int .i64 V.re, .int .i64 V.im] 23
  rw [← e5]; clear e5
  have c0 := (carryK (w' := w5) k0 (by repeat (first | with_reducible assumption | exact Below.refl _ _ | refine below_next (by with_reducible assumption) ?_))).cell
  go_wp2_with fail
  refine (rCheckQuotient_any p _).mono ?_
  rintro e w6 ⟨rfl, hb6⟩
  rw [H0.out]
  clear c0
  go_wp2_with fail
  refine (rCheckPolynomial_any l A m c _ (by omega) (carry hR (by repeat (first | with_reducible assumption | exact Below.refl _ _ | refine below_next (by with_reducible assumption) ?_)))).mono ?_
  rintro e w7 ⟨rfl, hb7⟩
  go_upto_region 6 with (first | (go_at_call 20; refine (rCheckW_any _ _).mono ?_; rintro e W' ⟨rfl, rfl⟩) | (go_at_call 18; (first | (with_reducible (refine (rFirst_any _ _ _ _ _ _ (reads2 _ _ _ _) (by omega)).mono ?_)) | (with_reducible (refine (rFirst_any _ _ _ _ _ _ (Reads.drew (reads2 _ _ _ _)) (by omega)).mono ?_))); rintro e W' ⟨rfl, rfl⟩))
  obtain ⟨w8, e8, hb8, hz8, _⟩ := box1 w7 #[.int .i64 (polErr l), .int .i64 (rng f 1 8)] 3
  rw [← e8]; clear e8
  rw [H2.out]
  go_upto_region 8 with (fail)
  obtain ⟨w9, e9, hb9, hz9, kZ⟩ := box1 w8 #[.int .i64 0, .int .i64 0] 23
  rw [← e9]; clear e9
  go_wp2_with fail
  refine (HK.out _ (carry hR (by repeat (first | with_reducible assumption | exact Below.refl _ _ | refine below_next (by with_reducible assumption) ?_)))).mono ?_
  rintro e w11 ⟨rfl, hb11⟩
  have kZ1 := carryK (w' := w11) kZ (by repeat (first | with_reducible assumption | exact Below.refl _ _ | refine below_next (by with_reducible assumption) ?_))
  have kZ2 := blk2 (u0 := .int .i64 V.re) (u1 := .int .i64 V.im) kZ1
  have hb12 := below2 (u0 := .int .i64 V.re) (u1 := .int .i64 V.im) (show Below w8.heap.size w8 w11 from (by repeat (first | with_reducible assumption | exact Below.refl _ _ | refine below_next (by with_reducible assumption) ?_))) (Nat.le_refl w8.heap.size)
  have cZ := kZ1.cell
  have fZ := kZ1.frozen
  go_upto_region 12 with (fail)
  obtain ⟨w12, e12⟩ : ∃ W, W = (w11.setCell ⟨w8.heap.size, 0, none⟩ (.int .i64 V.re)).setCell ⟨w8.heap.size, 1, none⟩ (.int .i64 V.im) := ⟨_, rfl⟩
  rw [← e12] at kZ2 hb12 ⊢
  clear hb9 hb11 cZ fZ e12 kZ1 kZ
  have cV := (carryK (w' := w12) kV (by repeat (first | with_reducible assumption | exact Below.refl _ _ | refine below_next (by with_reducible assumption) ?_))).cell
  have cZ := (carryK (w' := w12) kZ2 (by repeat (first | with_reducible assumption | exact Below.refl _ _ | refine below_next (by with_reducible assumption) ?_))).cell
  have qG := fun W => reflG_eq V W
  go_wp2_with fail
  clear cV cZ qG
  refine (awake_any _ (hV.con.carry (by repeat (first | with_reducible assumption | exact Below.refl _ _ | refine below_next (by with_reducible assumption) ?_))) (hV.tur.carry (by repeat (first | with_reducible assumption | exact Below.refl _ _ | refine below_next (by with_reducible assumption) ?_))) (hV.ten.carry (by repeat (first | with_reducible assumption | exact Below.refl _ _ | refine below_next (by with_reducible assumption) ?_)))).mono ?_
  rintro e wz ⟨rfl, hbz⟩
  go_wp2_with fail
  go_ret
  exact ⟨rfl, (by repeat (first | with_reducible assumption | exact Below.refl _ _ | refine below_next (by with_reducible assumption) ?_))⟩
set_option maxHeartbeats 8000000 in
theorem lawNum_gb (p : Pr) (A : Option Addr) (m c : Nat) (l : List Int) (f : Int) (w : World) (hV : VarsN w) (hR : Reads w w.heap.size 1 A m (ints l)) (hm : m ≤ 8) (r i : Nat) (hr : Ieee.double.order r r = some .eq) (hi : Ieee.double.order i i = some .eq) (E1 E2 : Int) (hI : Nbs p l f m r i E1 E2 .zero) (h0 : numErr p = 0) (h2 : fnz [polErr l, rng f 1 8] = E2) (n2 : ¬ E2 = 0) (hJ : ∀ w, Calls Tryz.prog 21 #[.agg #[.int .i64 p.n.re, .int .i64 p.n.im, .int .i64 p.d.re, .int .i64 p.d.im]] w fun e w' => e = .returned (.tuple #[.complex .f64 r i, .int .i64 E1]) ∧ Below w.heap.size w w') :
    Calls Tryz.prog 3 #[.agg #[.int .i64 p.n.re, .int .i64 p.n.im, .int .i64 p.d.re, .int .i64 p.d.im], .slice A m c, .int .i64 f] w fun e w' => e = .returned (.bool true) ∧ Below w.heap.size w w' := by
  obtain ⟨V, hVz⟩ : ∃ V, G.zero = V := ⟨_, rfl⟩
  rw [hVz] at hI
  have t2 : (E2 == 0) = false := by simpa using n2
  have HZ := hide hVz
  have HJ := hide hJ
  have qC : ∀ W, (binOp .eql 28 (.complex .f64 r i) (.complex .f64 r i)).run Tryz.prog W = .ok (.bool true) W := fun W => by rw [run_eql_complex, show FloatKind.f64.format.order r r = some .eq from hr, show FloatKind.f64.format.order i i = some .eq from hi]; rfl
  clear n2 hVz hJ hr hi
  have g8 : ¬ (8 : Int) < (m : Int) := by omega
  have HI := hide hI
  have H0 := hide h0
  have H2 := hide h2
  clear hI h0 h2
  go_enter Tryz.func3, Tryz.ntmps3
  go_upto_region 1 with (fail)
  obtain ⟨w1, e1, hb1, hz1, k0⟩ := box1 w #[.int .i64 p.n.re, .int .i64 p.n.im, .int .i64 p.d.re, .int .i64 p.d.im] 25
  rw [← e1]; clear e1
  have c0 := k0.cell
  go_wp2_with fail
  refine (HI.out.num _ (hV.con.carry (by repeat (first | with_reducible assumption | exact Below.refl _ _ | refine below_next (by with_reducible assumption) ?_)))).mono ?_
  rintro e w2 ⟨rfl, hb2⟩
  clear c0
  go_wp2_with (at_builtin; refine wpList_copied w2 rfl (.tmp 25) (.tmp 26) 26 (by rfl) 3 (.int .i64 0) 1 8 Tryz.underlying26 info_int rfl (by decide) (by decide) (by rfl) A m c (ints l) (by rfl) (carry hR (by repeat (first | with_reducible assumption | exact Below.refl _ _ | refine below_next (by with_reducible assumption) ?_))) (ints_one _) (by omega) ?_; intro A3 c3 w3 r3 hb3)
  go_wp2_with fail
  refine (HI.out.val A3 c3 _ (hV.con.carry (by repeat (first | with_reducible assumption | exact Below.refl _ _ | refine below_next (by with_reducible assumption) ?_))) (hV.tur.carry (by repeat (first | with_reducible assumption | exact Below.refl _ _ | refine below_next (by with_reducible assumption) ?_))) r3).mono ?_
  rintro e w4 ⟨rfl, hb4⟩
  go_upto_region 5 with (fail)
  obtain ⟨w5, e5, hb5, hz5, kV⟩ := box1 w4 #[.int .i64 V.re, .int .i64 V.im] 23
  rw [← e5]; clear e5
  have c0 := (carryK (w' := w5) k0 (by repeat (first | with_reducible assumption | exact Below.refl _ _ | refine below_next (by with_reducible assumption) ?_))).cell
  go_wp2_with fail
  refine (rCheckQuotient_any p _).mono ?_
  rintro e w6 ⟨rfl, hb6⟩
  rw [H0.out]
  clear c0
  go_wp2_with fail
  refine (rCheckPolynomial_any l A m c _ (by omega) (carry hR (by repeat (first | with_reducible assumption | exact Below.refl _ _ | refine below_next (by with_reducible assumption) ?_)))).mono ?_
  rintro e w7 ⟨rfl, hb7⟩
  go_upto_region 6 with (first | (go_at_call 20; refine (rCheckW_any _ _).mono ?_; rintro e W' ⟨rfl, rfl⟩) | (go_at_call 18; (first | (with_reducible (refine (rFirst_any _ _ _ _ _ _ (reads2 _ _ _ _) (by omega)).mono ?_)) | (with_reducible (refine (rFirst_any _ _ _ _ _ _ (Reads.drew (reads2 _ _ _ _)) (by omega)).mono ?_))); rintro e W' ⟨rfl, rfl⟩))
  obtain ⟨w8, e8, hb8, hz8, _⟩ := box1 w7 #[.int .i64 (polErr l), .int .i64 (rng f 1 8)] 3
  rw [← e8]; clear e8
  rw [H2.out]
  go_upto_region 8 with (fail)
  obtain ⟨w9, e9, hb9, hz9, kZ⟩ := box1 w8 #[.int .i64 0, .int .i64 0] 23
  rw [← e9]; clear e9
  have c0 := (carryK (w' := w9) k0 (by repeat (first | with_reducible assumption | exact Below.refl _ _ | refine below_next (by with_reducible assumption) ?_))).cell
  go_wp2_with fail
  refine (HJ.out _).mono ?_
  rintro e w10 ⟨rfl, hb10⟩
  clear c0
  have kZ2 : Blk w9 w8.heap.size 23 #[.int .i64 V.re, .int .i64 V.im] := by rw [← HZ.out]; exact kZ
  have cV := (carryK (w' := w10) kV (by repeat (first | with_reducible assumption | exact Below.refl _ _ | refine below_next (by with_reducible assumption) ?_))).cell
  have cZ := (carryK (w' := w10) kZ2 (by repeat (first | with_reducible assumption | exact Below.refl _ _ | refine below_next (by with_reducible assumption) ?_))).cell
  have qG := fun W => reflG_eq V W
  go_wp2_with fail
  clear cV cZ qG
  refine (awake_any _ (hV.con.carry (by repeat (first | with_reducible assumption | exact Below.refl _ _ | refine below_next (by with_reducible assumption) ?_))) (hV.tur.carry (by repeat (first | with_reducible assumption | exact Below.refl _ _ | refine below_next (by with_reducible assumption) ?_))) (hV.ten.carry (by repeat (first | with_reducible assumption | exact Below.refl _ _ | refine below_next (by with_reducible assumption) ?_)))).mono ?_
  rintro e wz ⟨rfl, hbz⟩
  go_wp2_with fail
  go_ret
  exact ⟨rfl, (by repeat (first | with_reducible assumption | exact Below.refl _ _ | refine below_next (by with_reducible assumption) ?_))⟩
set_option maxHeartbeats 8000000 in
theorem lawNum_gg (p : Pr) (A : Option Addr) (m c : Nat) (l : List Int) (f : Int) (w : World) (hV : VarsN w) (hR : Reads w w.heap.size 1 A m (ints l)) (hm : m ≤ 8) (r i : Nat) (hr : Ieee.double.order r r = some .eq) (hi : Ieee.double.order i i = some .eq) (E1 : Int) (V : G) (hI : Nbs p l f m r i E1 0 V) (h0 : numErr p = 0) (h2 : fnz [polErr l, rng f 1 8] = 0) (hJ : ∀ w, Calls Tryz.prog 21 #[.agg #[.int .i64 p.n.re, .int .i64 p.n.im, .int .i64 p.d.re, .int .i64 p.d.im]] w fun e w' => e = .returned (.tuple #[.complex .f64 r i, .int .i64 E1]) ∧ Below w.heap.size w w') (hK : ∀ w, Reads w w.heap.size 1 A m (ints l) → Calls Tryz.prog 22 #[.slice A m c, .int .i64 f] w fun e w' => e = .returned (.agg #[.int .i64 V.re, .int .i64 V.im]) ∧ Below w.heap.size w w') :
    Calls Tryz.prog 3 #[.agg #[.int .i64 p.n.re, .int .i64 p.n.im, .int .i64 p.d.re, .int .i64 p.d.im], .slice A m c, .int .i64 f] w fun e w' => e = .returned (.bool true) ∧ Below w.heap.size w w' := by
  have HJ := hide hJ
  have HK := hide hK
  have qC : ∀ W, (binOp .eql 28 (.complex .f64 r i) (.complex .f64 r i)).run Tryz.prog W = .ok (.bool true) W := fun W => by rw [run_eql_complex, show FloatKind.f64.format.order r r = some .eq from hr, show FloatKind.f64.format.order i i = some .eq from hi]; rfl
  clear hJ hK hr hi
  have g8 : ¬ (8 : Int) < (m : Int) := by omega
  have HI := hide hI
  have H0 := hide h0
  have H2 := hide h2
  clear hI h0 h2
  go_enter Tryz.func3, Tryz.ntmps3
  go_upto_region 1 with (fail)
  obtain ⟨w1, e1, hb1, hz1, k0⟩ := box1 w #[.int .i64 p.n.re, .int .i64 p.n.im, .int .i64 p.d.re, .int .i64 p.d.im] 25
  rw [← e1]; clear e1
  have c0 := k0.cell
  go_wp2_with fail
  refine (HI.out.num _ (hV.con.carry (by repeat (first | with_reducible assumption | exact Below.refl _ _ | refine below_next (by with_reducible assumption) ?_)))).mono ?_
  rintro e w2 ⟨rfl, hb2⟩
  clear c0
  go_wp2_with (at_builtin; refine wpList_copied w2 rfl (.tmp 25) (.tmp 26) 26 (by rfl) 3 (.int .i64 0) 1 8 Tryz.underlying26 info_int rfl (by decide) (by decide) (by rfl) A m c (ints l) (by rfl) (carry hR (by repeat (first | with_reducible assumption | exact Below.refl _ _ | refine below_next (by with_reducible assumption) ?_))) (ints_one _) (by omega) ?_; intro A3 c3 w3 r3 hb3)
  go_wp2_with fail
  refine (HI.out.val A3 c3 _ (hV.con.carry (by repeat (first | with_reducible assumption | exact Below.refl _ _ | refine below_next (by with_reducible assumption) ?_))) (hV.tur.carry (by repeat (first | with_reducible assumption | exact Below.refl _ _ | refine below_next (by with_reducible assumption) ?_))) r3).mono ?_
  rintro e w4 ⟨rfl, hb4⟩
  go_upto_region 5 with (fail)
  obtain ⟨w5, e5, hb5, hz5, kV⟩ := box1 w4 #[.int .i64 V.re, .int .i64 V.im] 23
  rw [← e5]; clear e5
  have c0 := (carryK (w' := w5) k0 (by repeat (first | with_reducible assumption | exact Below.refl _ _ | refine below_next (by with_reducible assumption) ?_))).cell
  go_wp2_with fail
  refine (rCheckQuotient_any p _).mono ?_
  rintro e w6 ⟨rfl, hb6⟩
  rw [H0.out]
  clear c0
  go_wp2_with fail
  refine (rCheckPolynomial_any l A m c _ (by omega) (carry hR (by repeat (first | with_reducible assumption | exact Below.refl _ _ | refine below_next (by with_reducible assumption) ?_)))).mono ?_
  rintro e w7 ⟨rfl, hb7⟩
  go_upto_region 6 with (first | (go_at_call 20; refine (rCheckW_any _ _).mono ?_; rintro e W' ⟨rfl, rfl⟩) | (go_at_call 18; (first | (with_reducible (refine (rFirst_any _ _ _ _ _ _ (reads2 _ _ _ _) (by omega)).mono ?_)) | (with_reducible (refine (rFirst_any _ _ _ _ _ _ (Reads.drew (reads2 _ _ _ _)) (by omega)).mono ?_))); rintro e W' ⟨rfl, rfl⟩))
  obtain ⟨w8, e8, hb8, hz8, _⟩ := box1 w7 #[.int .i64 (polErr l), .int .i64 (rng f 1 8)] 3
  rw [← e8]; clear e8
  rw [H2.out]
  go_upto_region 8 with (fail)
  obtain ⟨w9, e9, hb9, hz9, kZ⟩ := box1 w8 #[.int .i64 0, .int .i64 0] 23
  rw [← e9]; clear e9
  have c0 := (carryK (w' := w9) k0 (by repeat (first | with_reducible assumption | exact Below.refl _ _ | refine below_next (by with_reducible assumption) ?_))).cell
  go_wp2_with fail
  refine (HJ.out _).mono ?_
  rintro e w10 ⟨rfl, hb10⟩
  clear c0
  go_wp2_with fail
  refine (HK.out _ (carry hR (by repeat (first | with_reducible assumption | exact Below.refl _ _ | refine below_next (by with_reducible assumption) ?_)))).mono ?_
  rintro e w11 ⟨rfl, hb11⟩
  have kZ1 := carryK (w' := w11) kZ (by repeat (first | with_reducible assumption | exact Below.refl _ _ | refine below_next (by with_reducible assumption) ?_))
  have kZ2 := blk2 (u0 := .int .i64 V.re) (u1 := .int .i64 V.im) kZ1
  have hb12 := below2 (u0 := .int .i64 V.re) (u1 := .int .i64 V.im) (show Below w8.heap.size w8 w11 from (by repeat (first | with_reducible assumption | exact Below.refl _ _ | refine below_next (by with_reducible assumption) ?_))) (Nat.le_refl w8.heap.size)
  have cZ := kZ1.cell
  have fZ := kZ1.frozen
  go_upto_region 12 with (fail)
  obtain ⟨w12, e12⟩ : ∃ W, W = (w11.setCell ⟨w8.heap.size, 0, none⟩ (.int .i64 V.re)).setCell ⟨w8.heap.size, 1, none⟩ (.int .i64 V.im) := ⟨_, rfl⟩
  rw [← e12] at kZ2 hb12 ⊢
  clear hb9 hb10 hb11 cZ fZ e12 kZ1 kZ
  have cV := (carryK (w' := w12) kV (by repeat (first | with_reducible assumption | exact Below.refl _ _ | refine below_next (by with_reducible assumption) ?_))).cell
  have cZ := (carryK (w' := w12) kZ2 (by repeat (first | with_reducible assumption | exact Below.refl _ _ | refine below_next (by with_reducible assumption) ?_))).cell
  have qG := fun W => reflG_eq V W
  go_wp2_with fail
  clear cV cZ qG
  refine (awake_any _ (hV.con.carry (by repeat (first | with_reducible assumption | exact Below.refl _ _ | refine below_next (by with_reducible assumption) ?_))) (hV.tur.carry (by repeat (first | with_reducible assumption | exact Below.refl _ _ | refine below_next (by with_reducible assumption) ?_))) (hV.ten.carry (by repeat (first | with_reducible assumption | exact Below.refl _ _ | refine below_next (by with_reducible assumption) ?_)))).mono ?_
  rintro e wz ⟨rfl, hbz⟩
  go_wp2_with fail
  go_ret
  exact ⟨rfl, (by repeat (first | with_reducible assumption | exact Below.refl _ _ | refine below_next (by with_reducible assumption) ?_))⟩
theorem low_zeroG : (.agg #[.int .i64 G.zero.re, .int .i64 G.zero.im] : Value) = .agg #[.int .i64 0, .int .i64 0] := rfl
theorem lawNum_any (p : Pr) (A : Option Addr) (m c : Nat) (l : List Int) (f : Int) (w : World) (hV : VarsN w) (hR : Reads w w.heap.size 1 A m (ints l)) :
    Calls Tryz.prog 3 #[.agg #[.int .i64 p.n.re, .int .i64 p.n.im, .int .i64 p.d.re, .int .i64 p.d.im], .slice A m c, .int .i64 f] w fun e w' => e = .returned (.bool true) ∧ Below w.heap.size w w' := by
  by_cases hm : m ≤ 8
  · have hval2 : ∀ he : valErr l f = 0, ∀ A c w, Con w → Tur w → Reads w w.heap.size 1 A m (ints l) → Calls Tryz.prog 16 #[.slice A m c, .int .i64 f] w fun e w' => e = .returned (.tuple #[.agg #[.int .i64 (ev (iw f) l).re, .int .i64 (ev (iw f) l).im], .int .i64 0]) ∧ Below w.heap.size w w' := fun he A c w hC hT hR => Value_ok l f A m c w hC hT he (by omega) hR
    have hval1 : ∀ he : ¬ valErr l f = 0, ∀ A c w, Con w → Tur w → Reads w w.heap.size 1 A m (ints l) → Calls Tryz.prog 16 #[.slice A m c, .int .i64 f] w fun e w' => e = .returned (.tuple #[.agg #[.int .i64 G.zero.re, .int .i64 G.zero.im], .int .i64 (valErr l f)]) ∧ Below w.heap.size w w' := fun he A c w _ _ hR => Value_bad l f A m c w he (by omega) hR
    have hrv : ∀ he : valErr l f = 0, ∀ w, Reads w w.heap.size 1 A m (ints l) → Calls Tryz.prog 22 #[.slice A m c, .int .i64 f] w fun e w' => e = .returned (.agg #[.int .i64 (ev (iw f) l).re, .int .i64 (ev (iw f) l).im]) ∧ Below w.heap.size w w' := fun he w hR => rPolValue_ok l f A m c w he hR
    by_cases h0 : numErr p = 0
    · obtain ⟨hn1, hn2, hz⟩ := num_zero h0
      have hup := up_in hn1 hn2
      have hS := G.sq_pos hz
      have hqr : p.up.re.natAbs ≤ 3600000000 ∧ p.up.im.natAbs ≤ 3600000000 := by unfold G.nrm at hup; omega
      obtain ⟨r, i, E1, hr, hi, hnum, href⟩ : ∃ (r i : Nat) (E1 : Int), Ieee.double.order r r = some .eq ∧ Ieee.double.order i i = some .eq ∧ (∀ w, Con w → Calls Tryz.prog 15 #[.agg #[.int .i64 p.n.re, .int .i64 p.n.im, .int .i64 p.d.re, .int .i64 p.d.im]] w fun e w' => e = .returned (.tuple #[.complex .f64 r i, .int .i64 E1]) ∧ Below w.heap.size w w') ∧ (∀ w, Calls Tryz.prog 21 #[.agg #[.int .i64 p.n.re, .int .i64 p.n.im, .int .i64 p.d.re, .int .i64 p.d.im]] w fun e w' => e = .returned (.tuple #[.complex .f64 r i, .int .i64 E1]) ∧ Below w.heap.size w w') := by
        by_cases h1 : (p.up.re * 65536).tmod p.d.sq = 0
        · by_cases h2 : (p.up.im * 65536).tmod p.d.sq = 0
          · obtain ⟨j1, a, n, hj1, l1, e1, e2, e3⟩ := num_yes hS hqr.1 h1
            obtain ⟨j2, b, k, hj2, l2, f1, f2, f3⟩ := num_yes hS hqr.2 h2
            obtain ⟨r, r1, r2, r3⟩ := div_same hj1 e2 e3
            obtain ⟨i, i1, i2, i3⟩ := div_same hj2 f2 f3
            have m65 : ∀ j : Nat, j ≤ 16 → (0 : Int) < 2 ^ j ∧ (65536 : Int) % 2 ^ j = 0 := fun j hj => ⟨Int.pow_pos (by decide), Int.emod_eq_zero_of_dvd ⟨2 ^ (16 - j), by rw [← Int.pow_add, show j + (16 - j) = 16 by omega]; rfl⟩⟩
            exact ⟨r, i, 0, r3, i3, fun w hC => Number_ok p w hC h0 a b ⟨e1, f1⟩ r i r2 i2, fun w => rNumber_ok p w h0 ⟨n, 2 ^ j1⟩ ⟨k, 2 ^ j2⟩ l1 l2 (m65 j1 hj1).1 (m65 j2 hj2).1 (m65 j1 hj1).2 (m65 j2 hj2).2 r i r1 i1⟩
          · exact ⟨0, 0, 1, rfl, rfl, fun w hC => Number_form p w hC h0 (.inr h2), fun w => rNumber_form p w h0 _ _ rfl rfl (low_dpos hS).1 (low_dpos hS).1 (.inr (num_no hS h2).2)⟩
        · exact ⟨0, 0, 1, rfl, rfl, fun w hC => Number_form p w hC h0 (.inl h1), fun w => rNumber_form p w h0 _ _ rfl rfl (low_dpos hS).1 (low_dpos hS).1 (.inl (num_no hS h1).2)⟩
      by_cases h2 : valErr l f = 0
      · exact lawNum_gg p A m c l f w hV hR hm r i hr hi E1 _ ⟨hnum, hval2 h2⟩ h0 h2 href (hrv h2)
      · exact lawNum_gb p A m c l f w hV hR hm r i hr hi E1 _ ⟨hnum, hval1 h2⟩ h0 rfl h2 href
    · have hnum : ∀ w, Con w → Calls Tryz.prog 15 #[.agg #[.int .i64 p.n.re, .int .i64 p.n.im, .int .i64 p.d.re, .int .i64 p.d.im]] w fun e w' => e = .returned (.tuple #[.complex .f64 0 0, .int .i64 (numErr p)]) ∧ Below w.heap.size w w' := fun w hC => Number_bad p w hC h0
      by_cases h2 : valErr l f = 0
      · exact lawNum_bg p A m c l f w hV hR hm _ _ ⟨hnum, hval2 h2⟩ rfl h2 h0 (hrv h2)
      · exact lawNum_bb p A m c l f w hV hR hm _ _ ⟨hnum, hval1 h2⟩ rfl rfl h0 h2
  · exact lawNum_long p A m c l f w hV hR (by omega)
end Go.Proofs.YtnndaipnfniciaaGreatDoor
