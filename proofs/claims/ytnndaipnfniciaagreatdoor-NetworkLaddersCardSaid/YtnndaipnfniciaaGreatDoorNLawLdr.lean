/- The law NetworkLadders. -/
import Derived.Test.YtnndaipnfniciaaGreatDoorNAwk
import Derived.Test.YtnndaipnfniciaaGreatDoorNBad
import Derived.Test.YtnndaipnfniciaaGreatDoorNRLad
import Derived.Test.YtnndaipnfniciaaGreatDoorNLiftN
import Derived.Deep.DeepCutAuto
namespace Go.Proofs.YtnndaipnfniciaaGreatDoor
open Go.RowKit Go.Shelf
set_option maxRecDepth 100000
theorem shortL {l : List El} {w : World} {A : Option Addr} {n : Nat} (hR : Reads w w.heap.size 3 A n (els l)) (h : shortB l = true) : n ≤ 6 := by
  unfold shortB at h
  rw [Bool.and_eq_true, decide_eq_true_eq] at h
  have := els_reads_len hR
  omega
set_option maxHeartbeats 8000000 in
theorem lawLdr_long1 (A : Option Addr) (n c : Nat) (a : List El) (B : Option Addr) (m d : Nat) (b : List El) (w : World) (hV : VarsN w) (hR : Reads w w.heap.size 3 A n (els a)) (_hS : Reads w w.heap.size 3 B m (els b)) (h1 : shortB a = false) :
    Calls Tryz.prog 10 #[.slice A n c, .slice B m d] w fun e w' => e = .returned (.bool true) ∧ Below w.heap.size w w' := by
  have H1 := hide h1
  clear h1
  go_enter Tryz.func10, Tryz.ntmps10
  go_wp2_with fail
  refine (rShort_any A n c a _ hR).mono ?_
  rintro e w1 ⟨rfl, hb1⟩
  rw [H1.out]
  go_wp2_with fail
  refine (awake_any _ (hV.con.carry (by repeat (first | with_reducible assumption | exact Below.refl _ _ | refine below_next (by with_reducible assumption) ?_))) (hV.tur.carry (by repeat (first | with_reducible assumption | exact Below.refl _ _ | refine below_next (by with_reducible assumption) ?_))) (hV.ten.carry (by repeat (first | with_reducible assumption | exact Below.refl _ _ | refine below_next (by with_reducible assumption) ?_)))).mono ?_
  rintro e wz ⟨rfl, hbz⟩
  go_wp2_with fail
  go_ret
  exact ⟨rfl, (by repeat (first | with_reducible assumption | exact Below.refl _ _ | refine below_next (by with_reducible assumption) ?_))⟩
set_option maxHeartbeats 8000000 in
theorem lawLdr_long2 (A : Option Addr) (n c : Nat) (a : List El) (B : Option Addr) (m d : Nat) (b : List El) (w : World) (hV : VarsN w) (hR : Reads w w.heap.size 3 A n (els a)) (hS : Reads w w.heap.size 3 B m (els b)) (h1 : shortB a = true) (h2 : shortB b = false) :
    Calls Tryz.prog 10 #[.slice A n c, .slice B m d] w fun e w' => e = .returned (.bool true) ∧ Below w.heap.size w w' := by
  have H1 := hide h1
  have H2 := hide h2
  clear h1 h2
  go_enter Tryz.func10, Tryz.ntmps10
  go_wp2_with fail
  refine (rShort_any A n c a _ hR).mono ?_
  rintro e w1 ⟨rfl, hb1⟩
  rw [H1.out]
  go_wp2_with fail
  refine (rShort_any B m d b _ (carry hS (by repeat (first | with_reducible assumption | exact Below.refl _ _ | refine below_next (by with_reducible assumption) ?_)))).mono ?_
  rintro e w2 ⟨rfl, hb2⟩
  rw [H2.out]
  go_wp2_with fail
  refine (awake_any _ (hV.con.carry (by repeat (first | with_reducible assumption | exact Below.refl _ _ | refine below_next (by with_reducible assumption) ?_))) (hV.tur.carry (by repeat (first | with_reducible assumption | exact Below.refl _ _ | refine below_next (by with_reducible assumption) ?_))) (hV.ten.carry (by repeat (first | with_reducible assumption | exact Below.refl _ _ | refine below_next (by with_reducible assumption) ?_)))).mono ?_
  rintro e wz ⟨rfl, hbz⟩
  go_wp2_with fail
  go_ret
  exact ⟨rfl, (by repeat (first | with_reducible assumption | exact Below.refl _ _ | refine below_next (by with_reducible assumption) ?_))⟩
/-- What the program's functions return. -/
structure Ldr (n m : Nat) (a b : List El) (nR nJ : Nat) (LR LD LJ : List El) (ea eJ : Int) : Prop where
  rev : ∀ A c w, Reads w w.heap.size 3 A n (els a) → Calls Tryz.prog 64 #[.slice A n c] w fun e w' => ∃ A' c', e = .returned (.tuple #[.slice A' nR c', .int .i64 ea]) ∧ Reads w' w'.heap.size 3 A' nR (els LR) ∧ Below w.heap.size w w'
  dua : ∀ A c w, Reads w w.heap.size 3 A n (els a) → Calls Tryz.prog 59 #[.slice A n c] w fun e w' => ∃ A' c', e = .returned (.tuple #[.slice A' nR c', .int .i64 ea]) ∧ Reads w' w'.heap.size 3 A' nR (els LD) ∧ Below w.heap.size w w'
  joi : ∀ A c B d w, Reads w w.heap.size 3 A n (els a) → Reads w w.heap.size 3 B m (els b) → Calls Tryz.prog 67 #[.slice A n c, .slice B m d] w fun e w' => ∃ A' c', e = .returned (.tuple #[.slice A' nJ c', .int .i64 eJ]) ∧ Reads w' w'.heap.size 3 A' nJ (els LJ) ∧ Below w.heap.size w w'
set_option maxHeartbeats 8000000 in
theorem lawLdr_bad1 (A : Option Addr) (n c : Nat) (a : List El) (B : Option Addr) (m d : Nat) (b : List El) (w : World) (hV : VarsN w) (hR : Reads w w.heap.size 3 A n (els a)) (hS : Reads w w.heap.size 3 B m (els b)) (h1 : shortB a = true) (h2 : shortB b = true) (la bo : Int) (hla : ladErr a = la) (hbo : fnz [ladErr a, ladErr b] = bo) (h3 : ¬ la = 0) (h4 : ¬ bo = 0) (hI : Ldr n m a b 0 0 [] [] [] la bo) :
    Calls Tryz.prog 10 #[.slice A n c, .slice B m d] w fun e w' => e = .returned (.bool true) ∧ Below w.heap.size w w' := by
  have HLA := hide hla
  have HBO := hide hbo
  have t0 : (la == 0) = false := by simpa using h3
  have t1 : (bo == 0) = false := by simpa using h4
  have rN : ∀ W : World, Reads W W.heap.size 3 none 0 (els []) := fun _ => Reads.none_
  clear hla hbo h3 h4
  have hn6 := shortL hR h1
  have hm6 := shortL hS h2
  have H1 := hide h1
  have H2 := hide h2
  have HI := hide hI
  clear h1 h2 hI
  go_enter Tryz.func10, Tryz.ntmps10
  go_wp2_with fail
  refine (rShort_any A n c a _ hR).mono ?_
  rintro e w1 ⟨rfl, hb1⟩
  rw [H1.out]
  go_wp2_with fail
  refine (rShort_any B m d b _ (carry hS (by repeat (first | with_reducible assumption | exact Below.refl _ _ | refine below_next (by with_reducible assumption) ?_)))).mono ?_
  rintro e w2 ⟨rfl, hb2⟩
  rw [H2.out]
  go_wp2_with fail
  refine (ladder_lad A n c a _ (carry hR (by repeat (first | with_reducible assumption | exact Below.refl _ _ | refine below_next (by with_reducible assumption) ?_))) (by omega)).mono ?_
  rintro e w3 ⟨A3, c3, rfl, r3, hb3⟩
  go_wp2_with fail
  refine (HI.out.rev A3 c3 _ r3).mono ?_
  rintro e w4 ⟨A4, c4, rfl, r4, hb4⟩
  go_wp2_with fail
  refine (ladder_lad A n c a _ (carry hR (by repeat (first | with_reducible assumption | exact Below.refl _ _ | refine below_next (by with_reducible assumption) ?_))) (by omega)).mono ?_
  rintro e w5 ⟨A5, c5, rfl, r5, hb5⟩
  go_wp2_with fail
  refine (HI.out.dua A5 c5 _ r5).mono ?_
  rintro e w6 ⟨A6, c6, rfl, r6, hb6⟩
  go_wp2_with fail
  refine (ladder_lad A n c a _ (carry hR (by repeat (first | with_reducible assumption | exact Below.refl _ _ | refine below_next (by with_reducible assumption) ?_))) (by omega)).mono ?_
  rintro e w7 ⟨A7, c7, rfl, r7, hb7⟩
  go_wp2_with fail
  refine (ladder_lad B m d b _ (carry hS (by repeat (first | with_reducible assumption | exact Below.refl _ _ | refine below_next (by with_reducible assumption) ?_))) (by omega)).mono ?_
  rintro e w8 ⟨A8, c8, rfl, r8, hb8⟩
  go_wp2_with fail
  refine (HI.out.joi A7 c7 A8 c8 _ (carry r7 hb8) r8).mono ?_
  rintro e w9 ⟨A9, c9, rfl, r9, hb9⟩
  go_wp2_with fail
  refine (rCheckLadder_all A n c a _ (carry hR (by repeat (first | with_reducible assumption | exact Below.refl _ _ | refine below_next (by with_reducible assumption) ?_)))).mono ?_
  rintro e w10 ⟨rfl, hb10⟩
  go_wp2_with fail
  refine (rCheckLadder_all B m d b _ (carry hS (by repeat (first | with_reducible assumption | exact Below.refl _ _ | refine below_next (by with_reducible assumption) ?_)))).mono ?_
  rintro e w11 ⟨rfl, hb11⟩
  go_upto_region 8 with ((go_at_call 18; (first | (with_reducible (refine (rFirst_any _ _ _ _ _ _ (reads2 _ _ _ _) (by omega)).mono ?_)) | (with_reducible (refine (rFirst_any _ _ _ _ _ _ (Reads.drew (reads2 _ _ _ _)) (by omega)).mono ?_))); rintro e W' ⟨rfl, rfl⟩))
  obtain ⟨w12, e12, hb12, hz12, _⟩ := box1 w11 #[.int .i64 (ladErr a), .int .i64 (ladErr b)] 3
  rw [← e12]; clear e12
  rw [HBO.out, HLA.out]
  go_wp2_with fail
  refine (told_lad A4 _ _ _ _ (carry r4 (by repeat (first | with_reducible assumption | exact Below.refl _ _ | refine below_next (by with_reducible assumption) ?_))) (by omega)).mono ?_
  rintro e w13 ⟨Atw13, ctw13, rfl, rtw13, hbw13⟩
  go_wp2_with fail
  refine (sameLadder_true Atw13 _ _ _ none 0 _ rtw13 (carry (rN w12) (by repeat (first | with_reducible assumption | exact Below.refl _ _ | refine below_next (by with_reducible assumption) ?_))) (by omega)).mono ?_
  rintro e w14 ⟨rfl, hbw14⟩
  go_wp2_with fail
  refine (told_lad A6 _ _ _ _ (carry r6 (by repeat (first | with_reducible assumption | exact Below.refl _ _ | refine below_next (by with_reducible assumption) ?_))) (by omega)).mono ?_
  rintro e w15 ⟨Atw15, ctw15, rfl, rtw15, hbw15⟩
  go_wp2_with fail
  refine (sameLadder_true Atw15 _ _ _ none 0 _ rtw15 (carry (rN w12) (by repeat (first | with_reducible assumption | exact Below.refl _ _ | refine below_next (by with_reducible assumption) ?_))) (by omega)).mono ?_
  rintro e w16 ⟨rfl, hbw16⟩
  go_wp2_with fail
  refine (told_lad A9 _ _ _ _ (carry r9 (by repeat (first | with_reducible assumption | exact Below.refl _ _ | refine below_next (by with_reducible assumption) ?_))) (by omega)).mono ?_
  rintro e w17 ⟨Atw17, ctw17, rfl, rtw17, hbw17⟩
  go_wp2_with fail
  refine (sameLadder_true Atw17 _ _ _ none 0 _ rtw17 (carry (rN w12) (by repeat (first | with_reducible assumption | exact Below.refl _ _ | refine below_next (by with_reducible assumption) ?_))) (by omega)).mono ?_
  rintro e w18 ⟨rfl, hbw18⟩
  go_wp2_with fail
  refine (awake_any _ (hV.con.carry (by repeat (first | with_reducible assumption | exact Below.refl _ _ | refine below_next (by with_reducible assumption) ?_))) (hV.tur.carry (by repeat (first | with_reducible assumption | exact Below.refl _ _ | refine below_next (by with_reducible assumption) ?_))) (hV.ten.carry (by repeat (first | with_reducible assumption | exact Below.refl _ _ | refine below_next (by with_reducible assumption) ?_)))).mono ?_
  rintro e wz ⟨rfl, hbz⟩
  go_wp2_with fail
  go_ret
  exact ⟨rfl, (by repeat (first | with_reducible assumption | exact Below.refl _ _ | refine below_next (by with_reducible assumption) ?_))⟩
set_option maxHeartbeats 8000000 in
theorem lawLdr_bad2 (A : Option Addr) (n c : Nat) (a : List El) (B : Option Addr) (m d : Nat) (b : List El) (w : World) (hV : VarsN w) (hR : Reads w w.heap.size 3 A n (els a)) (hS : Reads w w.heap.size 3 B m (els b)) (h1 : shortB a = true) (h2 : shortB b = true) (bo : Int) (hla : ladErr a = 0) (hbo : fnz [ladErr a, ladErr b] = bo) (h4 : ¬ bo = 0) (hI : Ldr n m a b n 0 a.reverse (a.map El.dual) [] 0 bo) :
    Calls Tryz.prog 10 #[.slice A n c, .slice B m d] w fun e w' => e = .returned (.bool true) ∧ Below w.heap.size w w' := by
  have HOK := hide (lad_ok hla)
  have HLA := hide hla
  have HBO := hide hbo
  have t0 : ((0 : Int) == 0) = true := rfl
  have t1 : (bo == 0) = false := by simpa using h4
  have rN : ∀ W : World, Reads W W.heap.size 3 none 0 (els []) := fun _ => Reads.none_
  clear hla hbo h4
  have hn6 := shortL hR h1
  have hm6 := shortL hS h2
  have H1 := hide h1
  have H2 := hide h2
  have HI := hide hI
  clear h1 h2 hI
  go_enter Tryz.func10, Tryz.ntmps10
  go_wp2_with fail
  refine (rShort_any A n c a _ hR).mono ?_
  rintro e w1 ⟨rfl, hb1⟩
  rw [H1.out]
  go_wp2_with fail
  refine (rShort_any B m d b _ (carry hS (by repeat (first | with_reducible assumption | exact Below.refl _ _ | refine below_next (by with_reducible assumption) ?_)))).mono ?_
  rintro e w2 ⟨rfl, hb2⟩
  rw [H2.out]
  go_wp2_with fail
  refine (ladder_lad A n c a _ (carry hR (by repeat (first | with_reducible assumption | exact Below.refl _ _ | refine below_next (by with_reducible assumption) ?_))) (by omega)).mono ?_
  rintro e w3 ⟨A3, c3, rfl, r3, hb3⟩
  go_wp2_with fail
  refine (HI.out.rev A3 c3 _ r3).mono ?_
  rintro e w4 ⟨A4, c4, rfl, r4, hb4⟩
  go_wp2_with fail
  refine (ladder_lad A n c a _ (carry hR (by repeat (first | with_reducible assumption | exact Below.refl _ _ | refine below_next (by with_reducible assumption) ?_))) (by omega)).mono ?_
  rintro e w5 ⟨A5, c5, rfl, r5, hb5⟩
  go_wp2_with fail
  refine (HI.out.dua A5 c5 _ r5).mono ?_
  rintro e w6 ⟨A6, c6, rfl, r6, hb6⟩
  go_wp2_with fail
  refine (ladder_lad A n c a _ (carry hR (by repeat (first | with_reducible assumption | exact Below.refl _ _ | refine below_next (by with_reducible assumption) ?_))) (by omega)).mono ?_
  rintro e w7 ⟨A7, c7, rfl, r7, hb7⟩
  go_wp2_with fail
  refine (ladder_lad B m d b _ (carry hS (by repeat (first | with_reducible assumption | exact Below.refl _ _ | refine below_next (by with_reducible assumption) ?_))) (by omega)).mono ?_
  rintro e w8 ⟨A8, c8, rfl, r8, hb8⟩
  go_wp2_with fail
  refine (HI.out.joi A7 c7 A8 c8 _ (carry r7 hb8) r8).mono ?_
  rintro e w9 ⟨A9, c9, rfl, r9, hb9⟩
  go_wp2_with fail
  refine (rCheckLadder_all A n c a _ (carry hR (by repeat (first | with_reducible assumption | exact Below.refl _ _ | refine below_next (by with_reducible assumption) ?_)))).mono ?_
  rintro e w10 ⟨rfl, hb10⟩
  go_wp2_with fail
  refine (rCheckLadder_all B m d b _ (carry hS (by repeat (first | with_reducible assumption | exact Below.refl _ _ | refine below_next (by with_reducible assumption) ?_)))).mono ?_
  rintro e w11 ⟨rfl, hb11⟩
  go_upto_region 8 with ((go_at_call 18; (first | (with_reducible (refine (rFirst_any _ _ _ _ _ _ (reads2 _ _ _ _) (by omega)).mono ?_)) | (with_reducible (refine (rFirst_any _ _ _ _ _ _ (Reads.drew (reads2 _ _ _ _)) (by omega)).mono ?_))); rintro e W' ⟨rfl, rfl⟩))
  obtain ⟨w12, e12, hb12, hz12, _⟩ := box1 w11 #[.int .i64 (ladErr a), .int .i64 (ladErr b)] 3
  rw [← e12]; clear e12
  rw [HBO.out, HLA.out]
  go_wp2_with fail
  refine (rReverse_any A n c a _ (carry hR (by repeat (first | with_reducible assumption | exact Below.refl _ _ | refine below_next (by with_reducible assumption) ?_))) (by omega)).mono ?_
  rintro e w20 ⟨A20, c20, rfl, r20, hb20⟩
  go_wp2_with fail
  refine (rDual_ok A n c a _ (carry hR (by repeat (first | with_reducible assumption | exact Below.refl _ _ | refine below_next (by with_reducible assumption) ?_))) HOK.out).mono ?_
  rintro e w21 ⟨A21, c21, rfl, r21, hb21⟩
  go_wp2_with fail
  refine (told_lad A4 _ _ _ _ (carry r4 (by repeat (first | with_reducible assumption | exact Below.refl _ _ | refine below_next (by with_reducible assumption) ?_))) (by omega)).mono ?_
  rintro e w13 ⟨Atw13, ctw13, rfl, rtw13, hbw13⟩
  go_wp2_with fail
  refine (sameLadder_true Atw13 _ _ _ A20 c20 _ rtw13 (carry r20 (by repeat (first | with_reducible assumption | exact Below.refl _ _ | refine below_next (by with_reducible assumption) ?_))) (by omega)).mono ?_
  rintro e w14 ⟨rfl, hbw14⟩
  go_wp2_with fail
  refine (told_lad A6 _ _ _ _ (carry r6 (by repeat (first | with_reducible assumption | exact Below.refl _ _ | refine below_next (by with_reducible assumption) ?_))) (by omega)).mono ?_
  rintro e w15 ⟨Atw15, ctw15, rfl, rtw15, hbw15⟩
  go_wp2_with fail
  refine (sameLadder_true Atw15 _ _ _ A21 c21 _ rtw15 (carry r21 (by repeat (first | with_reducible assumption | exact Below.refl _ _ | refine below_next (by with_reducible assumption) ?_))) (by omega)).mono ?_
  rintro e w16 ⟨rfl, hbw16⟩
  go_wp2_with fail
  refine (told_lad A9 _ _ _ _ (carry r9 (by repeat (first | with_reducible assumption | exact Below.refl _ _ | refine below_next (by with_reducible assumption) ?_))) (by omega)).mono ?_
  rintro e w17 ⟨Atw17, ctw17, rfl, rtw17, hbw17⟩
  go_wp2_with fail
  refine (sameLadder_true Atw17 _ _ _ none 0 _ rtw17 (carry (rN w12) (by repeat (first | with_reducible assumption | exact Below.refl _ _ | refine below_next (by with_reducible assumption) ?_))) (by omega)).mono ?_
  rintro e w18 ⟨rfl, hbw18⟩
  go_wp2_with fail
  refine (awake_any _ (hV.con.carry (by repeat (first | with_reducible assumption | exact Below.refl _ _ | refine below_next (by with_reducible assumption) ?_))) (hV.tur.carry (by repeat (first | with_reducible assumption | exact Below.refl _ _ | refine below_next (by with_reducible assumption) ?_))) (hV.ten.carry (by repeat (first | with_reducible assumption | exact Below.refl _ _ | refine below_next (by with_reducible assumption) ?_)))).mono ?_
  rintro e wz ⟨rfl, hbz⟩
  go_wp2_with fail
  go_ret
  exact ⟨rfl, (by repeat (first | with_reducible assumption | exact Below.refl _ _ | refine below_next (by with_reducible assumption) ?_))⟩
set_option maxHeartbeats 8000000 in
theorem lawLdr_good (A : Option Addr) (n c : Nat) (a : List El) (B : Option Addr) (m d : Nat) (b : List El) (w : World) (hV : VarsN w) (hR : Reads w w.heap.size 3 A n (els a)) (hS : Reads w w.heap.size 3 B m (els b)) (h1 : shortB a = true) (h2 : shortB b = true) (hla : ladErr a = 0) (hbo : fnz [ladErr a, ladErr b] = 0) (nJ : Nat) (LJ : List El) (eJ : Int) (hI : Ldr n m a b n nJ a.reverse (a.map El.dual) LJ 0 eJ) (hnJ : nJ ≤ 12) (hJ : ∀ w, Reads w w.heap.size 3 A n (els a) → Reads w w.heap.size 3 B m (els b) → Calls Tryz.prog 70 #[.slice A n c, .slice B m d] w fun e w' => ∃ A' c', e = .returned (.tuple #[.slice A' nJ c', .int .i64 eJ]) ∧ Reads w' w'.heap.size 3 A' nJ (els LJ) ∧ Below w.heap.size w w') :
    Calls Tryz.prog 10 #[.slice A n c, .slice B m d] w fun e w' => e = .returned (.bool true) ∧ Below w.heap.size w w' := by
  have HOK := hide (lad_ok hla)
  have HLA := hide hla
  have HBO := hide hbo
  have HJ := hide hJ
  have t0 : ((0 : Int) == 0) = true := rfl
  clear hla hbo hJ
  have hn6 := shortL hR h1
  have hm6 := shortL hS h2
  have H1 := hide h1
  have H2 := hide h2
  have HI := hide hI
  clear h1 h2 hI
  go_enter Tryz.func10, Tryz.ntmps10
  go_wp2_with fail
  refine (rShort_any A n c a _ hR).mono ?_
  rintro e w1 ⟨rfl, hb1⟩
  rw [H1.out]
  go_wp2_with fail
  refine (rShort_any B m d b _ (carry hS (by repeat (first | with_reducible assumption | exact Below.refl _ _ | refine below_next (by with_reducible assumption) ?_)))).mono ?_
  rintro e w2 ⟨rfl, hb2⟩
  rw [H2.out]
  go_wp2_with fail
  refine (ladder_lad A n c a _ (carry hR (by repeat (first | with_reducible assumption | exact Below.refl _ _ | refine below_next (by with_reducible assumption) ?_))) (by omega)).mono ?_
  rintro e w3 ⟨A3, c3, rfl, r3, hb3⟩
  go_wp2_with fail
  refine (HI.out.rev A3 c3 _ r3).mono ?_
  rintro e w4 ⟨A4, c4, rfl, r4, hb4⟩
  go_wp2_with fail
  refine (ladder_lad A n c a _ (carry hR (by repeat (first | with_reducible assumption | exact Below.refl _ _ | refine below_next (by with_reducible assumption) ?_))) (by omega)).mono ?_
  rintro e w5 ⟨A5, c5, rfl, r5, hb5⟩
  go_wp2_with fail
  refine (HI.out.dua A5 c5 _ r5).mono ?_
  rintro e w6 ⟨A6, c6, rfl, r6, hb6⟩
  go_wp2_with fail
  refine (ladder_lad A n c a _ (carry hR (by repeat (first | with_reducible assumption | exact Below.refl _ _ | refine below_next (by with_reducible assumption) ?_))) (by omega)).mono ?_
  rintro e w7 ⟨A7, c7, rfl, r7, hb7⟩
  go_wp2_with fail
  refine (ladder_lad B m d b _ (carry hS (by repeat (first | with_reducible assumption | exact Below.refl _ _ | refine below_next (by with_reducible assumption) ?_))) (by omega)).mono ?_
  rintro e w8 ⟨A8, c8, rfl, r8, hb8⟩
  go_wp2_with fail
  refine (HI.out.joi A7 c7 A8 c8 _ (carry r7 hb8) r8).mono ?_
  rintro e w9 ⟨A9, c9, rfl, r9, hb9⟩
  go_wp2_with fail
  refine (rCheckLadder_all A n c a _ (carry hR (by repeat (first | with_reducible assumption | exact Below.refl _ _ | refine below_next (by with_reducible assumption) ?_)))).mono ?_
  rintro e w10 ⟨rfl, hb10⟩
  go_wp2_with fail
  refine (rCheckLadder_all B m d b _ (carry hS (by repeat (first | with_reducible assumption | exact Below.refl _ _ | refine below_next (by with_reducible assumption) ?_)))).mono ?_
  rintro e w11 ⟨rfl, hb11⟩
  go_upto_region 8 with ((go_at_call 18; (first | (with_reducible (refine (rFirst_any _ _ _ _ _ _ (reads2 _ _ _ _) (by omega)).mono ?_)) | (with_reducible (refine (rFirst_any _ _ _ _ _ _ (Reads.drew (reads2 _ _ _ _)) (by omega)).mono ?_))); rintro e W' ⟨rfl, rfl⟩))
  obtain ⟨w12, e12, hb12, hz12, _⟩ := box1 w11 #[.int .i64 (ladErr a), .int .i64 (ladErr b)] 3
  rw [← e12]; clear e12
  rw [HBO.out, HLA.out]
  go_wp2_with fail
  refine (rReverse_any A n c a _ (carry hR (by repeat (first | with_reducible assumption | exact Below.refl _ _ | refine below_next (by with_reducible assumption) ?_))) (by omega)).mono ?_
  rintro e w20 ⟨A20, c20, rfl, r20, hb20⟩
  go_wp2_with fail
  refine (rDual_ok A n c a _ (carry hR (by repeat (first | with_reducible assumption | exact Below.refl _ _ | refine below_next (by with_reducible assumption) ?_))) HOK.out).mono ?_
  rintro e w21 ⟨A21, c21, rfl, r21, hb21⟩
  go_wp2_with fail
  refine (HJ.out _ (carry hR (by repeat (first | with_reducible assumption | exact Below.refl _ _ | refine below_next (by with_reducible assumption) ?_))) (carry hS (by repeat (first | with_reducible assumption | exact Below.refl _ _ | refine below_next (by with_reducible assumption) ?_)))).mono ?_
  rintro e w22 ⟨A22, c22, rfl, r22, hb22⟩
  go_wp2_with fail
  refine (told_lad A4 _ _ _ _ (carry r4 (by repeat (first | with_reducible assumption | exact Below.refl _ _ | refine below_next (by with_reducible assumption) ?_))) (by omega)).mono ?_
  rintro e w13 ⟨Atw13, ctw13, rfl, rtw13, hbw13⟩
  go_wp2_with fail
  refine (sameLadder_true Atw13 _ _ _ A20 c20 _ rtw13 (carry r20 (by repeat (first | with_reducible assumption | exact Below.refl _ _ | refine below_next (by with_reducible assumption) ?_))) (by omega)).mono ?_
  rintro e w14 ⟨rfl, hbw14⟩
  go_wp2_with fail
  refine (told_lad A6 _ _ _ _ (carry r6 (by repeat (first | with_reducible assumption | exact Below.refl _ _ | refine below_next (by with_reducible assumption) ?_))) (by omega)).mono ?_
  rintro e w15 ⟨Atw15, ctw15, rfl, rtw15, hbw15⟩
  go_wp2_with fail
  refine (sameLadder_true Atw15 _ _ _ A21 c21 _ rtw15 (carry r21 (by repeat (first | with_reducible assumption | exact Below.refl _ _ | refine below_next (by with_reducible assumption) ?_))) (by omega)).mono ?_
  rintro e w16 ⟨rfl, hbw16⟩
  go_wp2_with fail
  refine (told_lad A9 _ _ _ _ (carry r9 (by repeat (first | with_reducible assumption | exact Below.refl _ _ | refine below_next (by with_reducible assumption) ?_))) (by omega)).mono ?_
  rintro e w17 ⟨Atw17, ctw17, rfl, rtw17, hbw17⟩
  go_wp2_with fail
  refine (sameLadder_true Atw17 _ _ _ A22 c22 _ rtw17 (carry r22 (by repeat (first | with_reducible assumption | exact Below.refl _ _ | refine below_next (by with_reducible assumption) ?_))) (by omega)).mono ?_
  rintro e w18 ⟨rfl, hbw18⟩
  go_wp2_with fail
  refine (awake_any _ (hV.con.carry (by repeat (first | with_reducible assumption | exact Below.refl _ _ | refine below_next (by with_reducible assumption) ?_))) (hV.tur.carry (by repeat (first | with_reducible assumption | exact Below.refl _ _ | refine below_next (by with_reducible assumption) ?_))) (hV.ten.carry (by repeat (first | with_reducible assumption | exact Below.refl _ _ | refine below_next (by with_reducible assumption) ?_)))).mono ?_
  rintro e wz ⟨rfl, hbz⟩
  go_wp2_with fail
  go_ret
  exact ⟨rfl, (by repeat (first | with_reducible assumption | exact Below.refl _ _ | refine below_next (by with_reducible assumption) ?_))⟩
theorem nonep {w : World} {e : Ending} {w' : World} {E : Int} (h : e = .returned (.tuple #[.slice none 0 0, .int .i64 E]) ∧ Below w.heap.size w w') : ∃ (A' : Option Addr) (c' : Nat), e = .returned (.tuple #[.slice A' 0 c', .int .i64 E]) ∧ Reads w' w'.heap.size 3 A' 0 (els []) ∧ Below w.heap.size w w' := ⟨none, 0, h.1, Reads.none_, h.2⟩
theorem lawLdr_any (A : Option Addr) (n c : Nat) (a : List El) (B : Option Addr) (m d : Nat) (b : List El) (w : World) (hV : VarsN w) (hR : Reads w w.heap.size 3 A n (els a)) (hS : Reads w w.heap.size 3 B m (els b)) :
    Calls Tryz.prog 10 #[.slice A n c, .slice B m d] w fun e w' => e = .returned (.bool true) ∧ Below w.heap.size w w' := by
  by_cases h1 : shortB a = true
  · by_cases h2 : shortB b = true
    · have hn6 := shortL hR h1
      have hm6 := shortL hS h2
      have fz : ∀ x y : Int, fnz [x, y] = if x = 0 then y else x := fun x y => by
        by_cases hx : x = 0 <;> simp [fnz, hx]
        by_cases hy : y = 0 <;> simp [hy]
      have fz3 : ∀ x y z : Int, fnz [x, y, z] = if x = 0 then (if y = 0 then z else y) else x := fun x y z => by
        by_cases hx : x = 0 <;> simp [fnz, hx]
        by_cases hy : y = 0 <;> simp [hy]
        by_cases hz : z = 0 <;> simp [hz]
      by_cases ha : ladErr a = 0
      · by_cases hb : ladErr b = 0
        · by_cases h5 : n + m ≤ 5
          · refine lawLdr_good A n c a B m d b w hV hR hS h1 h2 ha (by rw [fz, ha, hb]; rfl) (n + m) (a ++ b) 0 ⟨fun A c w h => Reverse_ok A n c a w h ha, fun A c w h => Dual_ok A n c a w h ha, fun A c B d w h h' => Join_ok A n c a B m d b w h h' ha hb h5⟩ (by omega) fun w h h' => rJoin_ok A n c a B m d b w h h' h5
          · refine lawLdr_good A n c a B m d b w hV hR hS h1 h2 ha (by rw [fz, ha, hb]; rfl) 0 [] 5 ⟨fun A c w h => Reverse_ok A n c a w h ha, fun A c w h => Dual_ok A n c a w h ha, fun A c B d w h h' => (Join_bad A n c a B m d b w h h' (by omega) (by omega) 5 (by rw [fz3, ha, hb, if_pos rfl, if_pos rfl, if_pos (by omega)]) (by decide)).mono fun _ _ h => nonep h⟩ (by omega) fun w h h' => (rJoin_many A n c B m d w (by omega) (by omega) (by omega)).mono fun _ _ h => nonep h
        · refine lawLdr_bad2 A n c a B m d b w hV hR hS h1 h2 (ladErr b) ha (by rw [fz, ha]; rfl) hb ⟨fun A c w h => Reverse_ok A n c a w h ha, fun A c w h => Dual_ok A n c a w h ha, fun A c B d w h h' => (Join_bad A n c a B m d b w h h' (by omega) (by omega) (ladErr b) (by rw [fz3, ha, if_pos rfl, if_neg hb]) hb).mono fun _ _ h => nonep h⟩
      · refine lawLdr_bad1 A n c a B m d b w hV hR hS h1 h2 (ladErr a) (ladErr a) rfl (by rw [fz, if_neg ha]) ha ha ⟨fun A c w h => (Reverse_bad a A n c w ha (by omega) h).mono fun _ _ h => nonep h, fun A c w h => (Dual_bad A n c a w h ha (by omega)).mono fun _ _ h => nonep h, fun A c B d w h h' => (Join_bad A n c a B m d b w h h' (by omega) (by omega) (ladErr a) (by rw [fz3, if_neg ha]) ha).mono fun _ _ h => nonep h⟩
    · exact lawLdr_long2 A n c a B m d b w hV hR hS h1 (by simpa using h2)
  · exact lawLdr_long1 A n c a B m d b w hV hR hS (by simpa using h1)
end Go.Proofs.YtnndaipnfniciaaGreatDoor
