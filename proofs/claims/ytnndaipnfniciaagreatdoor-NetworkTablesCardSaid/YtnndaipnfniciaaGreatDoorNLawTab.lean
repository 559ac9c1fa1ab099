/- The law NetworkTables. -/
import Derived.Test.YtnndaipnfniciaaGreatDoorNAwk
import Derived.Test.YtnndaipnfniciaaGreatDoorNRTab2
import Derived.Test.YtnndaipnfniciaaGreatDoorNSamR
import Derived.Test.YtnndaipnfniciaaGreatDoorNLiftN
import Derived.Deep.DeepCutAuto
namespace Go.Proofs.YtnndaipnfniciaaGreatDoor
open Go.RowKit Go.Shelf
set_option maxRecDepth 100000
theorem shortT {l : List El} {w : World} {A : Option Addr} {n : Nat} (hR : Reads w w.heap.size 3 A n (els l)) (h : shortB l = true) : n ≤ 6 := by
  unfold shortB at h
  rw [Bool.and_eq_true, decide_eq_true_eq] at h
  have := els_reads_len hR
  omega
set_option maxHeartbeats 8000000 in
theorem lawTab_long (A : Option Addr) (n c : Nat) (l : List El) (a b : Int) (x' : Rt) (w : World) (hV : VarsN w) (hR : Reads w w.heap.size 3 A n (els l)) (hs : shortB l = false) :
    Calls Tryz.prog 5 #[.slice A n c, .agg #[.int .i64 a, .int .i64 b, .int .i64 x'.n, .int .i64 x'.d]] w fun e w' => e = .returned (.bool true) ∧ Below w.heap.size w w' := by
  have HS := hide hs
  clear hs
  go_enter Tryz.func5, Tryz.ntmps5
  go_wp2_with fail
  obtain ⟨w1, e1, hb1, hz1, kB⟩ := box1 w #[.int .i64 a, .int .i64 b, .int .i64 x'.n, .int .i64 x'.d] 56
  rw [← e1]; clear e1
  refine (rShort_any A n c l _ (carry hR (by repeat (first | with_reducible assumption | exact Below.refl _ _ | refine below_next (by with_reducible assumption) ?_)))).mono ?_
  rintro e w2 ⟨rfl, hb2⟩
  rw [HS.out]
  go_wp2_with fail
  refine (awake_any _ (hV.con.carry (by repeat (first | with_reducible assumption | exact Below.refl _ _ | refine below_next (by with_reducible assumption) ?_))) (hV.tur.carry (by repeat (first | with_reducible assumption | exact Below.refl _ _ | refine below_next (by with_reducible assumption) ?_))) (hV.ten.carry (by repeat (first | with_reducible assumption | exact Below.refl _ _ | refine below_next (by with_reducible assumption) ?_)))).mono ?_
  rintro e wz ⟨rfl, hbz⟩
  go_wp2_with fail
  go_ret
  exact ⟨rfl, (by repeat (first | with_reducible assumption | exact Below.refl _ _ | refine below_next (by with_reducible assumption) ?_))⟩
/-- What the program's functions return. -/
structure Tbs (n : Nat) (l : List El) (a b : Int) (x' : Rt) (nT : Nat) (TL : List Rt) (eT p eP q eB : Int) : Prop where
  tb : ∀ A c w, Con w → Reads w w.heap.size 3 A n (els l) → Calls Tryz.prog 29 #[.slice A n c, .int .i64 a, .int .i64 b] w fun e w' => ∃ A' c', e = .returned (.tuple #[.slice A' nT c', .int .i64 eT]) ∧ Reads w' w'.heap.size 2 A' nT (rts TL) ∧ Below w.heap.size w w'
  pk : ∀ A c w, Con w → Reads w w.heap.size 3 A n (els l) → Calls Tryz.prog 30 #[.slice A n c, .int .i64 a, .int .i64 b] w fun e w' => e = .returned (.tuple #[.int .i64 p, .int .i64 eP]) ∧ Below w.heap.size w w'
  bl : ∀ A c w, Con w → Reads w w.heap.size 3 A n (els l) → Calls Tryz.prog 31 #[.slice A n c, .int .i64 a, .int .i64 b, .agg #[.int .i64 x'.n, .int .i64 x'.d]] w fun e w' => e = .returned (.tuple #[.int .i64 q, .int .i64 eB]) ∧ Below w.heap.size w w'
structure TbR (A : Option Addr) (n c : Nat) (l : List El) (a b : Int) (nT : Nat) (TL : List Rt) (eT p eP : Int) : Prop where
  tb : ∀ w, Reads w w.heap.size 3 A n (els l) → Calls Tryz.prog 34 #[.slice A n c, .int .i64 a, .int .i64 b] w fun e w' => ∃ A' c', e = .returned (.tuple #[.slice A' nT c', .int .i64 eT]) ∧ Reads w' w'.heap.size 2 A' nT (rts TL) ∧ Below w.heap.size w w'
  pk : ∀ w, Reads w w.heap.size 3 A n (els l) → Calls Tryz.prog 35 #[.slice A n c, .int .i64 a, .int .i64 b] w fun e w' => e = .returned (.tuple #[.int .i64 p, .int .i64 eP]) ∧ Below w.heap.size w w'
set_option maxHeartbeats 8000000 in
theorem lawTab_bad (A : Option Addr) (n c : Nat) (l : List El) (a b : Int) (x' : Rt) (w : World) (hV : VarsN w) (hR : Reads w w.heap.size 3 A n (els l)) (hs : shortB l = true) (E : Int) (he : tabErr l a b = E) (h0 : ¬ E = 0) (LE : Int) (hx : lvlErr x' = LE) (hI : Tbs n l a b x' 0 [] E 0 E 0 E) :
    Calls Tryz.prog 5 #[.slice A n c, .agg #[.int .i64 a, .int .i64 b, .int .i64 x'.n, .int .i64 x'.d]] w fun e w' => e = .returned (.bool true) ∧ Below w.heap.size w w' := by
  have t0 : (E == 0) = false := by simpa using h0
  have hfz : fnz [E, LE] = E := by simp [fnz, h0]
  have HF := hide hfz
  clear h0 hfz
  have hn6 := shortT hR hs
  have HS := hide hs
  have HI := hide hI
  have HE := hide he
  have HX := hide hx
  clear hs hI he hx
  go_enter Tryz.func5, Tryz.ntmps5
  go_wp2_with fail
  obtain ⟨w1, e1, hb1, hz1, kB⟩ := box1 w #[.int .i64 a, .int .i64 b, .int .i64 x'.n, .int .i64 x'.d] 56
  rw [← e1]; clear e1
  refine (rShort_any A n c l _ (carry hR (by repeat (first | with_reducible assumption | exact Below.refl _ _ | refine below_next (by with_reducible assumption) ?_)))).mono ?_
  rintro e w2 ⟨rfl, hb2⟩
  rw [HS.out]
  go_upto_region 3 with (fail)
  have hRq := carry (w' := w2) hR (by repeat (first | with_reducible assumption | exact Below.refl _ _ | refine below_next (by with_reducible assumption) ?_))
  have hCq := hV.con.carry (w' := w2) (by repeat (first | with_reducible assumption | exact Below.refl _ _ | refine below_next (by with_reducible assumption) ?_))
  have kq := carryK (w' := w2) kB (by repeat (first | with_reducible assumption | exact Below.refl _ _ | refine below_next (by with_reducible assumption) ?_))
  have c0 : ∀ i W, Below w2.heap.size w2 W → W.cell? ⟨w.heap.size, i, none⟩ = (#[.int .i64 a, .int .i64 b, .int .i64 x'.n, .int .i64 x'.d] : Array Value)[i]? := fun i W h => (carryK kq h).cell i
  go_region_held3 (fun W => Below w2.heap.size w2 W) (first | exact (Below.refl _ _).drew | (with_reducible assumption) | exact below_new ‹Below w2.heap.size w2 _› (Nat.le_refl _) _ | (refine below_set (below_set (below_set (below_set (by assumption) (by omega) _) (by omega) _) (by omega) _) (by omega) _)) (first | (go_at_call 25; refine (ladder_lad A n c l _ (carry hRq ‹Below w2.heap.size w2 _›) (by omega)).mono ?_; rintro e w3 ⟨A3, cA3, rfl, rA3, hbw3⟩; have hS3 := below_step ‹Below w2.heap.size w2 _› hbw3 (Below.size ‹Below w2.heap.size w2 _›)) | (go_at_call 29; refine (HI.out.tb A3 cA3 _ (hCq.carry ‹Below w2.heap.size w2 _›) rA3).mono ?_; rintro e w4 ⟨A4, c4, rfl, r4, hbT⟩; have hS4 := below_step ‹Below w2.heap.size w2 _› hbT (Below.size ‹Below w2.heap.size w2 _›)))
  have hbw4 : Below w2.heap.size w2 w4 := by with_reducible assumption
  clear c0 hRq hCq kq hS3 hbw3 hS4 hbT rA3
  go_upto_region 4 with (fail)
  have hRq := carry (w' := w4) hR (by repeat (first | with_reducible assumption | exact Below.refl _ _ | refine below_next (by with_reducible assumption) ?_))
  have hCq := hV.con.carry (w' := w4) (by repeat (first | with_reducible assumption | exact Below.refl _ _ | refine below_next (by with_reducible assumption) ?_))
  have kq := carryK (w' := w4) kB (by repeat (first | with_reducible assumption | exact Below.refl _ _ | refine below_next (by with_reducible assumption) ?_))
  have c0 : ∀ i W, Below w4.heap.size w4 W → W.cell? ⟨w.heap.size, i, none⟩ = (#[.int .i64 a, .int .i64 b, .int .i64 x'.n, .int .i64 x'.d] : Array Value)[i]? := fun i W h => (carryK kq h).cell i
  go_region_held3 (fun W => Below w4.heap.size w4 W) (first | exact (Below.refl _ _).drew | (with_reducible assumption) | exact below_new ‹Below w4.heap.size w4 _› (Nat.le_refl _) _ | (refine below_set (below_set (below_set (below_set (by assumption) (by omega) _) (by omega) _) (by omega) _) (by omega) _)) (first | (go_at_call 25; refine (ladder_lad A n c l _ (carry hRq ‹Below w4.heap.size w4 _›) (by omega)).mono ?_; rintro e w5 ⟨A5, cA5, rfl, rA5, hbw5⟩; have hS3 := below_step ‹Below w4.heap.size w4 _› hbw5 (Below.size ‹Below w4.heap.size w4 _›)) | (go_at_call 30; refine (HI.out.pk A5 cA5 _ (hCq.carry ‹Below w4.heap.size w4 _›) rA5).mono ?_; rintro e w6 ⟨rfl, hbT⟩; have hS4 := below_step ‹Below w4.heap.size w4 _› hbT (Below.size ‹Below w4.heap.size w4 _›)))
  have hbw6 : Below w4.heap.size w4 w6 := by with_reducible assumption
  clear c0 hRq hCq kq hS3 hbw5 hS4 hbT rA5
  go_upto_region 5 with (fail)
  have hRq := carry (w' := w6) hR (by repeat (first | with_reducible assumption | exact Below.refl _ _ | refine below_next (by with_reducible assumption) ?_))
  have hCq := hV.con.carry (w' := w6) (by repeat (first | with_reducible assumption | exact Below.refl _ _ | refine below_next (by with_reducible assumption) ?_))
  have kq := carryK (w' := w6) kB (by repeat (first | with_reducible assumption | exact Below.refl _ _ | refine below_next (by with_reducible assumption) ?_))
  have c0 : ∀ i W, Below w6.heap.size w6 W → W.cell? ⟨w.heap.size, i, none⟩ = (#[.int .i64 a, .int .i64 b, .int .i64 x'.n, .int .i64 x'.d] : Array Value)[i]? := fun i W h => (carryK kq h).cell i
  go_region_held3 (fun W => Below w6.heap.size w6 W) (first | exact (Below.refl _ _).drew | (with_reducible assumption) | exact below_new ‹Below w6.heap.size w6 _› (Nat.le_refl _) _ | (refine below_set (below_set (below_set (below_set (by assumption) (by omega) _) (by omega) _) (by omega) _) (by omega) _)) (first | (go_at_call 25; refine (ladder_lad A n c l _ (carry hRq ‹Below w6.heap.size w6 _›) (by omega)).mono ?_; rintro e w7 ⟨A7, cA7, rfl, rA7, hbw7⟩; have hS3 := below_step ‹Below w6.heap.size w6 _› hbw7 (Below.size ‹Below w6.heap.size w6 _›)) | (go_at_call 31; refine (HI.out.bl A7 cA7 _ (hCq.carry ‹Below w6.heap.size w6 _›) rA7).mono ?_; rintro e w8 ⟨rfl, hbT⟩; have hS4 := below_step ‹Below w6.heap.size w6 _› hbT (Below.size ‹Below w6.heap.size w6 _›)))
  have hbw8 : Below w6.heap.size w6 w8 := by with_reducible assumption
  clear c0 hRq hCq kq hS3 hbw7 hS4 hbT rA7
  have c0 := (carryK (w' := w8) kB (by repeat (first | with_reducible assumption | exact Below.refl _ _ | refine below_next (by with_reducible assumption) ?_))).cell
  go_wp2_with fail
  refine (rCheckTable_any A n c l a b _ (carry hR (by repeat (first | with_reducible assumption | exact Below.refl _ _ | refine below_next (by with_reducible assumption) ?_)))).mono ?_
  rintro e w9 ⟨rfl, hb9⟩
  rw [HE.out]
  clear c0
  have c0 := (carryK (w' := w9) kB (by repeat (first | with_reducible assumption | exact Below.refl _ _ | refine below_next (by with_reducible assumption) ?_))).cell
  go_wp2_with fail
  refine (rCheckLevel_any x' _).mono ?_
  rintro e w10 ⟨rfl, hb10⟩
  rw [HX.out]
  clear c0
  go_upto_region 8 with ((go_at_call 18; (first | (with_reducible (refine (rFirst_any _ _ _ _ _ _ (reads2 _ _ _ _) (by omega)).mono ?_)) | (with_reducible (refine (rFirst_any _ _ _ _ _ _ (Reads.drew (reads2 _ _ _ _)) (by omega)).mono ?_))); rintro e W' ⟨rfl, rfl⟩))
  obtain ⟨w11, e11, hb11, hz11, _⟩ := box1 w10 #[.int .i64 E, .int .i64 LE] 3
  rw [← e11]; clear e11
  rw [HF.out]
  have c0 := (carryK (w' := w11) kB (by repeat (first | with_reducible assumption | exact Below.refl _ _ | refine below_next (by with_reducible assumption) ?_))).cell
  go_wp2_with fail
  refine (sameRatios_any A4 0 c4 [] none 0 0 [] _ (carry r4 (by repeat (first | with_reducible assumption | exact Below.refl _ _ | refine below_next (by with_reducible assumption) ?_))) Reads.none_ (by omega) (by omega)).mono ?_
  rintro e w30 ⟨rfl, hb30⟩
  rw [decide_eq_true rfl]
  clear c0
  go_wp2_with fail
  refine (awake_any _ (hV.con.carry (by repeat (first | with_reducible assumption | exact Below.refl _ _ | refine below_next (by with_reducible assumption) ?_))) (hV.tur.carry (by repeat (first | with_reducible assumption | exact Below.refl _ _ | refine below_next (by with_reducible assumption) ?_))) (hV.ten.carry (by repeat (first | with_reducible assumption | exact Below.refl _ _ | refine below_next (by with_reducible assumption) ?_)))).mono ?_
  rintro e wz ⟨rfl, hbz⟩
  go_wp2_with fail
  go_ret
  exact ⟨rfl, (by repeat (first | with_reducible assumption | exact Below.refl _ _ | refine below_next (by with_reducible assumption) ?_))⟩
set_option maxHeartbeats 8000000 in
theorem lawTab_nolev (A : Option Addr) (n c : Nat) (l : List El) (a b : Int) (x' : Rt) (w : World) (hV : VarsN w) (hR : Reads w w.heap.size 3 A n (els l)) (hs : shortB l = true) (he : tabErr l a b = 0) (LE : Int) (hx : lvlErr x' = LE) (h0 : ¬ LE = 0) (nT : Nat) (TL : List Rt) (eT p eP : Int) (hnT : nT ≤ 100) (hI : Tbs n l a b x' nT TL eT p eP 0 LE) (hJ : TbR A n c l a b nT TL eT p eP) :
    Calls Tryz.prog 5 #[.slice A n c, .agg #[.int .i64 a, .int .i64 b, .int .i64 x'.n, .int .i64 x'.d]] w fun e w' => e = .returned (.bool true) ∧ Below w.heap.size w w' := by
  have t0 : (LE == 0) = false := by simpa using h0
  have hfz : fnz [0, LE] = LE := by simp [fnz, h0]
  have HF := hide hfz
  have HJ := hide hJ
  clear h0 hfz hJ
  have hn6 := shortT hR hs
  have HS := hide hs
  have HI := hide hI
  have HE := hide he
  have HX := hide hx
  clear hs hI he hx
  go_enter Tryz.func5, Tryz.ntmps5
  go_wp2_with fail
  obtain ⟨w1, e1, hb1, hz1, kB⟩ := box1 w #[.int .i64 a, .int .i64 b, .int .i64 x'.n, .int .i64 x'.d] 56
  rw [← e1]; clear e1
  refine (rShort_any A n c l _ (carry hR (by repeat (first | with_reducible assumption | exact Below.refl _ _ | refine below_next (by with_reducible assumption) ?_)))).mono ?_
  rintro e w2 ⟨rfl, hb2⟩
  rw [HS.out]
  go_upto_region 3 with (fail)
  have hRq := carry (w' := w2) hR (by repeat (first | with_reducible assumption | exact Below.refl _ _ | refine below_next (by with_reducible assumption) ?_))
  have hCq := hV.con.carry (w' := w2) (by repeat (first | with_reducible assumption | exact Below.refl _ _ | refine below_next (by with_reducible assumption) ?_))
  have kq := carryK (w' := w2) kB (by repeat (first | with_reducible assumption | exact Below.refl _ _ | refine below_next (by with_reducible assumption) ?_))
  have c0 : ∀ i W, Below w2.heap.size w2 W → W.cell? ⟨w.heap.size, i, none⟩ = (#[.int .i64 a, .int .i64 b, .int .i64 x'.n, .int .i64 x'.d] : Array Value)[i]? := fun i W h => (carryK kq h).cell i
  go_region_held3 (fun W => Below w2.heap.size w2 W) (first | exact (Below.refl _ _).drew | (with_reducible assumption) | exact below_new ‹Below w2.heap.size w2 _› (Nat.le_refl _) _ | (refine below_set (below_set (below_set (below_set (by assumption) (by omega) _) (by omega) _) (by omega) _) (by omega) _)) (first | (go_at_call 25; refine (ladder_lad A n c l _ (carry hRq ‹Below w2.heap.size w2 _›) (by omega)).mono ?_; rintro e w3 ⟨A3, cA3, rfl, rA3, hbw3⟩; have hS3 := below_step ‹Below w2.heap.size w2 _› hbw3 (Below.size ‹Below w2.heap.size w2 _›)) | (go_at_call 29; refine (HI.out.tb A3 cA3 _ (hCq.carry ‹Below w2.heap.size w2 _›) rA3).mono ?_; rintro e w4 ⟨A4, c4, rfl, r4, hbT⟩; have hS4 := below_step ‹Below w2.heap.size w2 _› hbT (Below.size ‹Below w2.heap.size w2 _›)))
  have hbw4 : Below w2.heap.size w2 w4 := by with_reducible assumption
  clear c0 hRq hCq kq hS3 hbw3 hS4 hbT rA3
  go_upto_region 4 with (fail)
  have hRq := carry (w' := w4) hR (by repeat (first | with_reducible assumption | exact Below.refl _ _ | refine below_next (by with_reducible assumption) ?_))
  have hCq := hV.con.carry (w' := w4) (by repeat (first | with_reducible assumption | exact Below.refl _ _ | refine below_next (by with_reducible assumption) ?_))
  have kq := carryK (w' := w4) kB (by repeat (first | with_reducible assumption | exact Below.refl _ _ | refine below_next (by with_reducible assumption) ?_))
  have c0 : ∀ i W, Below w4.heap.size w4 W → W.cell? ⟨w.heap.size, i, none⟩ = (#[.int .i64 a, .int .i64 b, .int .i64 x'.n, .int .i64 x'.d] : Array Value)[i]? := fun i W h => (carryK kq h).cell i
  go_region_held3 (fun W => Below w4.heap.size w4 W) (first | exact (Below.refl _ _).drew | (with_reducible assumption) | exact below_new ‹Below w4.heap.size w4 _› (Nat.le_refl _) _ | (refine below_set (below_set (below_set (below_set (by assumption) (by omega) _) (by omega) _) (by omega) _) (by omega) _)) (first | (go_at_call 25; refine (ladder_lad A n c l _ (carry hRq ‹Below w4.heap.size w4 _›) (by omega)).mono ?_; rintro e w5 ⟨A5, cA5, rfl, rA5, hbw5⟩; have hS3 := below_step ‹Below w4.heap.size w4 _› hbw5 (Below.size ‹Below w4.heap.size w4 _›)) | (go_at_call 30; refine (HI.out.pk A5 cA5 _ (hCq.carry ‹Below w4.heap.size w4 _›) rA5).mono ?_; rintro e w6 ⟨rfl, hbT⟩; have hS4 := below_step ‹Below w4.heap.size w4 _› hbT (Below.size ‹Below w4.heap.size w4 _›)))
  have hbw6 : Below w4.heap.size w4 w6 := by with_reducible assumption
  clear c0 hRq hCq kq hS3 hbw5 hS4 hbT rA5
  go_upto_region 5 with (fail)
  have hRq := carry (w' := w6) hR (by repeat (first | with_reducible assumption | exact Below.refl _ _ | refine below_next (by with_reducible assumption) ?_))
  have hCq := hV.con.carry (w' := w6) (by repeat (first | with_reducible assumption | exact Below.refl _ _ | refine below_next (by with_reducible assumption) ?_))
  have kq := carryK (w' := w6) kB (by repeat (first | with_reducible assumption | exact Below.refl _ _ | refine below_next (by with_reducible assumption) ?_))
  have c0 : ∀ i W, Below w6.heap.size w6 W → W.cell? ⟨w.heap.size, i, none⟩ = (#[.int .i64 a, .int .i64 b, .int .i64 x'.n, .int .i64 x'.d] : Array Value)[i]? := fun i W h => (carryK kq h).cell i
  go_region_held3 (fun W => Below w6.heap.size w6 W) (first | exact (Below.refl _ _).drew | (with_reducible assumption) | exact below_new ‹Below w6.heap.size w6 _› (Nat.le_refl _) _ | (refine below_set (below_set (below_set (below_set (by assumption) (by omega) _) (by omega) _) (by omega) _) (by omega) _)) (first | (go_at_call 25; refine (ladder_lad A n c l _ (carry hRq ‹Below w6.heap.size w6 _›) (by omega)).mono ?_; rintro e w7 ⟨A7, cA7, rfl, rA7, hbw7⟩; have hS3 := below_step ‹Below w6.heap.size w6 _› hbw7 (Below.size ‹Below w6.heap.size w6 _›)) | (go_at_call 31; refine (HI.out.bl A7 cA7 _ (hCq.carry ‹Below w6.heap.size w6 _›) rA7).mono ?_; rintro e w8 ⟨rfl, hbT⟩; have hS4 := below_step ‹Below w6.heap.size w6 _› hbT (Below.size ‹Below w6.heap.size w6 _›)))
  have hbw8 : Below w6.heap.size w6 w8 := by with_reducible assumption
  clear c0 hRq hCq kq hS3 hbw7 hS4 hbT rA7
  have c0 := (carryK (w' := w8) kB (by repeat (first | with_reducible assumption | exact Below.refl _ _ | refine below_next (by with_reducible assumption) ?_))).cell
  go_wp2_with fail
  refine (rCheckTable_any A n c l a b _ (carry hR (by repeat (first | with_reducible assumption | exact Below.refl _ _ | refine below_next (by with_reducible assumption) ?_)))).mono ?_
  rintro e w9 ⟨rfl, hb9⟩
  rw [HE.out]
  clear c0
  have c0 := (carryK (w' := w9) kB (by repeat (first | with_reducible assumption | exact Below.refl _ _ | refine below_next (by with_reducible assumption) ?_))).cell
  go_wp2_with fail
  refine (rCheckLevel_any x' _).mono ?_
  rintro e w10 ⟨rfl, hb10⟩
  rw [HX.out]
  clear c0
  go_upto_region 8 with ((go_at_call 18; (first | (with_reducible (refine (rFirst_any _ _ _ _ _ _ (reads2 _ _ _ _) (by omega)).mono ?_)) | (with_reducible (refine (rFirst_any _ _ _ _ _ _ (Reads.drew (reads2 _ _ _ _)) (by omega)).mono ?_))); rintro e W' ⟨rfl, rfl⟩))
  obtain ⟨w11, e11, hb11, hz11, _⟩ := box1 w10 #[.int .i64 0, .int .i64 LE] 3
  rw [← e11]; clear e11
  rw [HF.out]
  have c0 := (carryK (w' := w11) kB (by repeat (first | with_reducible assumption | exact Below.refl _ _ | refine below_next (by with_reducible assumption) ?_))).cell
  go_wp2_with fail
  refine (HJ.out.tb _ (carry hR (by repeat (first | with_reducible assumption | exact Below.refl _ _ | refine below_next (by with_reducible assumption) ?_)))).mono ?_
  rintro e w12 ⟨A12, c12, rfl, r12, hb12⟩
  clear c0
  have c0 := (carryK (w' := w12) kB (by repeat (first | with_reducible assumption | exact Below.refl _ _ | refine below_next (by with_reducible assumption) ?_))).cell
  go_wp2_with fail
  refine (HJ.out.pk _ (carry hR (by repeat (first | with_reducible assumption | exact Below.refl _ _ | refine below_next (by with_reducible assumption) ?_)))).mono ?_
  rintro e w13 ⟨rfl, hb13⟩
  clear c0
  have c0 := (carryK (w' := w13) kB (by repeat (first | with_reducible assumption | exact Below.refl _ _ | refine below_next (by with_reducible assumption) ?_))).cell
  go_wp2_with fail
  clear c0
  refine (sameRatios_any A4 nT c4 TL A12 nT c12 TL _ (carry r4 (by repeat (first | with_reducible assumption | exact Below.refl _ _ | refine below_next (by with_reducible assumption) ?_))) (carry r12 (by repeat (first | with_reducible assumption | exact Below.refl _ _ | refine below_next (by with_reducible assumption) ?_))) (by omega) (by omega)).mono ?_
  rintro e w30 ⟨rfl, hb30⟩
  rw [decide_eq_true rfl]
  go_wp2_with fail
  refine (awake_any _ (hV.con.carry (by repeat (first | with_reducible assumption | exact Below.refl _ _ | refine below_next (by with_reducible assumption) ?_))) (hV.tur.carry (by repeat (first | with_reducible assumption | exact Below.refl _ _ | refine below_next (by with_reducible assumption) ?_))) (hV.ten.carry (by repeat (first | with_reducible assumption | exact Below.refl _ _ | refine below_next (by with_reducible assumption) ?_)))).mono ?_
  rintro e wz ⟨rfl, hbz⟩
  go_wp2_with fail
  go_ret
  exact ⟨rfl, (by repeat (first | with_reducible assumption | exact Below.refl _ _ | refine below_next (by with_reducible assumption) ?_))⟩
set_option maxHeartbeats 8000000 in
theorem lawTab_good (A : Option Addr) (n c : Nat) (l : List El) (a b : Int) (x' : Rt) (w : World) (hV : VarsN w) (hR : Reads w w.heap.size 3 A n (els l)) (hs : shortB l = true) (he : tabErr l a b = 0) (hx : lvlErr x' = 0) (nT : Nat) (TL : List Rt) (eT p eP q eB : Int) (hnT : nT ≤ 100) (hI : Tbs n l a b x' nT TL eT p eP q eB) (hJ : TbR A n c l a b nT TL eT p eP) (hB : ∀ w, Reads w w.heap.size 3 A n (els l) → Calls Tryz.prog 36 #[.slice A n c, .int .i64 a, .int .i64 b, .agg #[.int .i64 x'.n, .int .i64 x'.d]] w fun e w' => e = .returned (.tuple #[.int .i64 q, .int .i64 eB]) ∧ Below w.heap.size w w') :
    Calls Tryz.prog 5 #[.slice A n c, .agg #[.int .i64 a, .int .i64 b, .int .i64 x'.n, .int .i64 x'.d]] w fun e w' => e = .returned (.bool true) ∧ Below w.heap.size w w' := by
  have hfz : fnz [0, 0] = 0 := rfl
  have HF := hide hfz
  have HJ := hide hJ
  have HB := hide hB
  clear hfz hJ hB
  have hn6 := shortT hR hs
  have HS := hide hs
  have HI := hide hI
  have HE := hide he
  have HX := hide hx
  clear hs hI he hx
  go_enter Tryz.func5, Tryz.ntmps5
  go_wp2_with fail
  obtain ⟨w1, e1, hb1, hz1, kB⟩ := box1 w #[.int .i64 a, .int .i64 b, .int .i64 x'.n, .int .i64 x'.d] 56
  rw [← e1]; clear e1
  refine (rShort_any A n c l _ (carry hR (by repeat (first | with_reducible assumption | exact Below.refl _ _ | refine below_next (by with_reducible assumption) ?_)))).mono ?_
  rintro e w2 ⟨rfl, hb2⟩
  rw [HS.out]
  go_upto_region 3 with (fail)
  have hRq := carry (w' := w2) hR (by repeat (first | with_reducible assumption | exact Below.refl _ _ | refine below_next (by with_reducible assumption) ?_))
  have hCq := hV.con.carry (w' := w2) (by repeat (first | with_reducible assumption | exact Below.refl _ _ | refine below_next (by with_reducible assumption) ?_))
  have kq := carryK (w' := w2) kB (by repeat (first | with_reducible assumption | exact Below.refl _ _ | refine below_next (by with_reducible assumption) ?_))
  have c0 : ∀ i W, Below w2.heap.size w2 W → W.cell? ⟨w.heap.size, i, none⟩ = (#[.int .i64 a, .int .i64 b, .int .i64 x'.n, .int .i64 x'.d] : Array Value)[i]? := fun i W h => (carryK kq h).cell i
  go_region_held3 (fun W => Below w2.heap.size w2 W) (first | exact (Below.refl _ _).drew | (with_reducible assumption) | exact below_new ‹Below w2.heap.size w2 _› (Nat.le_refl _) _ | (refine below_set (below_set (below_set (below_set (by assumption) (by omega) _) (by omega) _) (by omega) _) (by omega) _)) (first | (go_at_call 25; refine (ladder_lad A n c l _ (carry hRq ‹Below w2.heap.size w2 _›) (by omega)).mono ?_; rintro e w3 ⟨A3, cA3, rfl, rA3, hbw3⟩; have hS3 := below_step ‹Below w2.heap.size w2 _› hbw3 (Below.size ‹Below w2.heap.size w2 _›)) | (go_at_call 29; refine (HI.out.tb A3 cA3 _ (hCq.carry ‹Below w2.heap.size w2 _›) rA3).mono ?_; rintro e w4 ⟨A4, c4, rfl, r4, hbT⟩; have hS4 := below_step ‹Below w2.heap.size w2 _› hbT (Below.size ‹Below w2.heap.size w2 _›)))
  have hbw4 : Below w2.heap.size w2 w4 := by with_reducible assumption
  clear c0 hRq hCq kq hS3 hbw3 hS4 hbT rA3
  go_upto_region 4 with (fail)
  have hRq := carry (w' := w4) hR (by repeat (first | with_reducible assumption | exact Below.refl _ _ | refine below_next (by with_reducible assumption) ?_))
  have hCq := hV.con.carry (w' := w4) (by repeat (first | with_reducible assumption | exact Below.refl _ _ | refine below_next (by with_reducible assumption) ?_))
  have kq := carryK (w' := w4) kB (by repeat (first | with_reducible assumption | exact Below.refl _ _ | refine below_next (by with_reducible assumption) ?_))
  have c0 : ∀ i W, Below w4.heap.size w4 W → W.cell? ⟨w.heap.size, i, none⟩ = (#[.int .i64 a, .int .i64 b, .int .i64 x'.n, .int .i64 x'.d] : Array Value)[i]? := fun i W h => (carryK kq h).cell i
  go_region_held3 (fun W => Below w4.heap.size w4 W) (first | exact (Below.refl _ _).drew | (with_reducible assumption) | exact below_new ‹Below w4.heap.size w4 _› (Nat.le_refl _) _ | (refine below_set (below_set (below_set (below_set (by assumption) (by omega) _) (by omega) _) (by omega) _) (by omega) _)) (first | (go_at_call 25; refine (ladder_lad A n c l _ (carry hRq ‹Below w4.heap.size w4 _›) (by omega)).mono ?_; rintro e w5 ⟨A5, cA5, rfl, rA5, hbw5⟩; have hS3 := below_step ‹Below w4.heap.size w4 _› hbw5 (Below.size ‹Below w4.heap.size w4 _›)) | (go_at_call 30; refine (HI.out.pk A5 cA5 _ (hCq.carry ‹Below w4.heap.size w4 _›) rA5).mono ?_; rintro e w6 ⟨rfl, hbT⟩; have hS4 := below_step ‹Below w4.heap.size w4 _› hbT (Below.size ‹Below w4.heap.size w4 _›)))
  have hbw6 : Below w4.heap.size w4 w6 := by with_reducible assumption
  clear c0 hRq hCq kq hS3 hbw5 hS4 hbT rA5
  go_upto_region 5 with (fail)
  have hRq := carry (w' := w6) hR (by repeat (first | with_reducible assumption | exact Below.refl _ _ | refine below_next (by with_reducible assumption) ?_))
  have hCq := hV.con.carry (w' := w6) (by repeat (first | with_reducible assumption | exact Below.refl _ _ | refine below_next (by with_reducible assumption) ?_))
  have kq := carryK (w' := w6) kB (by repeat (first | with_reducible assumption | exact Below.refl _ _ | refine below_next (by with_reducible assumption) ?_))
  have c0 : ∀ i W, Below w6.heap.size w6 W → W.cell? ⟨w.heap.size, i, none⟩ = (#[.int .i64 a, .int .i64 b, .int .i64 x'.n, .int .i64 x'.d] : Array Value)[i]? := fun i W h => (carryK kq h).cell i
  go_region_held3 (fun W => Below w6.heap.size w6 W) (first | exact (Below.refl _ _).drew | (with_reducible assumption) | exact below_new ‹Below w6.heap.size w6 _› (Nat.le_refl _) _ | (refine below_set (below_set (below_set (below_set (by assumption) (by omega) _) (by omega) _) (by omega) _) (by omega) _)) (first | (go_at_call 25; refine (ladder_lad A n c l _ (carry hRq ‹Below w6.heap.size w6 _›) (by omega)).mono ?_; rintro e w7 ⟨A7, cA7, rfl, rA7, hbw7⟩; have hS3 := below_step ‹Below w6.heap.size w6 _› hbw7 (Below.size ‹Below w6.heap.size w6 _›)) | (go_at_call 31; refine (HI.out.bl A7 cA7 _ (hCq.carry ‹Below w6.heap.size w6 _›) rA7).mono ?_; rintro e w8 ⟨rfl, hbT⟩; have hS4 := below_step ‹Below w6.heap.size w6 _› hbT (Below.size ‹Below w6.heap.size w6 _›)))
  have hbw8 : Below w6.heap.size w6 w8 := by with_reducible assumption
  clear c0 hRq hCq kq hS3 hbw7 hS4 hbT rA7
  have c0 := (carryK (w' := w8) kB (by repeat (first | with_reducible assumption | exact Below.refl _ _ | refine below_next (by with_reducible assumption) ?_))).cell
  go_wp2_with fail
  refine (rCheckTable_any A n c l a b _ (carry hR (by repeat (first | with_reducible assumption | exact Below.refl _ _ | refine below_next (by with_reducible assumption) ?_)))).mono ?_
  rintro e w9 ⟨rfl, hb9⟩
  rw [HE.out]
  clear c0
  have c0 := (carryK (w' := w9) kB (by repeat (first | with_reducible assumption | exact Below.refl _ _ | refine below_next (by with_reducible assumption) ?_))).cell
  go_wp2_with fail
  refine (rCheckLevel_any x' _).mono ?_
  rintro e w10 ⟨rfl, hb10⟩
  rw [HX.out]
  clear c0
  go_upto_region 8 with ((go_at_call 18; (first | (with_reducible (refine (rFirst_any _ _ _ _ _ _ (reads2 _ _ _ _) (by omega)).mono ?_)) | (with_reducible (refine (rFirst_any _ _ _ _ _ _ (Reads.drew (reads2 _ _ _ _)) (by omega)).mono ?_))); rintro e W' ⟨rfl, rfl⟩))
  obtain ⟨w11, e11, hb11, hz11, _⟩ := box1 w10 #[.int .i64 0, .int .i64 0] 3
  rw [← e11]; clear e11
  rw [HF.out]
  have c0 := (carryK (w' := w11) kB (by repeat (first | with_reducible assumption | exact Below.refl _ _ | refine below_next (by with_reducible assumption) ?_))).cell
  go_wp2_with fail
  refine (HJ.out.tb _ (carry hR (by repeat (first | with_reducible assumption | exact Below.refl _ _ | refine below_next (by with_reducible assumption) ?_)))).mono ?_
  rintro e w12 ⟨A12, c12, rfl, r12, hb12⟩
  clear c0
  have c0 := (carryK (w' := w12) kB (by repeat (first | with_reducible assumption | exact Below.refl _ _ | refine below_next (by with_reducible assumption) ?_))).cell
  go_wp2_with fail
  refine (HJ.out.pk _ (carry hR (by repeat (first | with_reducible assumption | exact Below.refl _ _ | refine below_next (by with_reducible assumption) ?_)))).mono ?_
  rintro e w13 ⟨rfl, hb13⟩
  clear c0
  have c0 := (carryK (w' := w13) kB (by repeat (first | with_reducible assumption | exact Below.refl _ _ | refine below_next (by with_reducible assumption) ?_))).cell
  go_wp2_with fail
  refine (HB.out _ (carry hR (by repeat (first | with_reducible assumption | exact Below.refl _ _ | refine below_next (by with_reducible assumption) ?_)))).mono ?_
  rintro e w14 ⟨rfl, hb14⟩
  go_wp2_with fail
  clear c0
  refine (sameRatios_any A4 nT c4 TL A12 nT c12 TL _ (carry r4 (by repeat (first | with_reducible assumption | exact Below.refl _ _ | refine below_next (by with_reducible assumption) ?_))) (carry r12 (by repeat (first | with_reducible assumption | exact Below.refl _ _ | refine below_next (by with_reducible assumption) ?_))) (by omega) (by omega)).mono ?_
  rintro e w30 ⟨rfl, hb30⟩
  rw [decide_eq_true rfl]
  go_wp2_with fail
  refine (awake_any _ (hV.con.carry (by repeat (first | with_reducible assumption | exact Below.refl _ _ | refine below_next (by with_reducible assumption) ?_))) (hV.tur.carry (by repeat (first | with_reducible assumption | exact Below.refl _ _ | refine below_next (by with_reducible assumption) ?_))) (hV.ten.carry (by repeat (first | with_reducible assumption | exact Below.refl _ _ | refine below_next (by with_reducible assumption) ?_)))).mono ?_
  rintro e wz ⟨rfl, hbz⟩
  go_wp2_with fail
  go_ret
  exact ⟨rfl, (by repeat (first | with_reducible assumption | exact Below.refl _ _ | refine below_next (by with_reducible assumption) ?_))⟩
section
variable {l : List El} {a : Int} {n : Nat} {x : Rt} {w w' : World} {e : Ending}
theorem lv_np (hp : noPole l a n) (h : LvPost l a n w e w') : ∃ A' c', e = .returned (.tuple #[.slice A' n c', .int .i64 0]) ∧ Reads w' w'.heap.size 2 A' n (rts (tab l a n)) ∧ Below w.heap.size w w' := by
  obtain ⟨hb, ⟨_, A', c', he, hr⟩ | ⟨h, _⟩⟩ := h
  · exact ⟨A', c', he, hr, hb⟩
  · exact absurd hp h
theorem lv_po (hp : ¬ noPole l a n) (h : LvPost l a n w e w') : ∃ (A' : Option Addr) (c' : Nat), e = .returned (.tuple #[.slice A' 0 c', .int .i64 17]) ∧ Reads w' w'.heap.size 2 A' 0 (rts []) ∧ Below w.heap.size w w' := by
  obtain ⟨hb, ⟨h, _⟩ | ⟨_, he⟩⟩ := h
  · exact absurd h hp
  · exact ⟨none, 0, he, Reads.none_, hb⟩
theorem pk_np (hp : noPole l a n) (h : PkPost l a n w e w') : e = .returned (.tuple #[.int .i64 (a + pkN (tab l a n) n), .int .i64 0]) ∧ Below w.heap.size w w' := by
  obtain ⟨hb, ⟨_, he⟩ | ⟨h, _⟩⟩ := h
  · exact ⟨he, hb⟩
  · exact absurd hp h
theorem pk_po (hp : ¬ noPole l a n) (h : PkPost l a n w e w') : e = .returned (.tuple #[.int .i64 0, .int .i64 17]) ∧ Below w.heap.size w w' := by
  obtain ⟨hb, ⟨h, _⟩ | ⟨_, he⟩⟩ := h
  · exact absurd h hp
  · exact ⟨he, hb⟩
theorem bl_no (hx : ¬ lvlErr x = 0) (h : BlPost l a n x w e w') : e = .returned (.tuple #[.int .i64 0, .int .i64 (lvlErr x)]) ∧ Below w.heap.size w w' := by
  obtain ⟨hb, ⟨_, he⟩ | ⟨h, _⟩ | ⟨h, _⟩⟩ := h
  · exact ⟨he, hb⟩
  · exact absurd h hx
  · exact absurd h hx
theorem bl_po (hx : lvlErr x = 0) (hp : ¬ noPole l a n) (h : BlPost l a n x w e w') : e = .returned (.tuple #[.int .i64 0, .int .i64 17]) ∧ Below w.heap.size w w' := by
  obtain ⟨hb, ⟨h, _⟩ | ⟨_, _, he⟩ | ⟨_, h, _⟩⟩ := h
  · exact absurd hx h
  · exact ⟨he, hb⟩
  · exact absurd h hp
theorem bl_hit (hx : lvlErr x = 0) (hp : noPole l a n) {i : Nat} (hi : blN (tab l a n) x n = some i) (h : BlPost l a n x w e w') : e = .returned (.tuple #[.int .i64 (a + i), .int .i64 0]) ∧ Below w.heap.size w w' := by
  obtain ⟨hb, ⟨h, _⟩ | ⟨_, h, _⟩ | ⟨_, _, ⟨j, hj, he⟩ | ⟨hj, _⟩⟩⟩ := h
  · exact absurd hx h
  · exact absurd hp h
  · rw [hi] at hj; rw [Option.some.inj hj]; exact ⟨he, hb⟩
  · rw [hi] at hj; cases hj
theorem bl_none (hx : lvlErr x = 0) (hp : noPole l a n) (hi : blN (tab l a n) x n = none) (h : BlPost l a n x w e w') : e = .returned (.tuple #[.int .i64 0, .int .i64 7]) ∧ Below w.heap.size w w' := by
  obtain ⟨hb, ⟨h, _⟩ | ⟨_, h, _⟩ | ⟨_, _, ⟨j, hj, _⟩ | ⟨_, he⟩⟩⟩ := h
  · exact absurd hx h
  · exact absurd hp h
  · rw [hi] at hj; cases hj
  · exact ⟨he, hb⟩
theorem rb_po (hp : ¬ noPole l a n) (h : RbPost l a n x w e w') : e = .returned (.tuple #[.int .i64 0, .int .i64 17]) ∧ Below w.heap.size w w' := by
  obtain ⟨hb, ⟨_, he⟩ | ⟨h, _⟩⟩ := h
  · exact ⟨he, hb⟩
  · exact absurd h hp
theorem rb_hit (hp : noPole l a n) {i : Nat} (hi : blN (tab l a n) x n = some i) (h : RbPost l a n x w e w') : e = .returned (.tuple #[.int .i64 (a + i), .int .i64 0]) ∧ Below w.heap.size w w' := by
  obtain ⟨hb, ⟨h, _⟩ | ⟨_, ⟨j, hj, he⟩ | ⟨hj, _⟩⟩⟩ := h
  · exact absurd hp h
  · rw [hi] at hj; rw [Option.some.inj hj]; exact ⟨he, hb⟩
  · rw [hi] at hj; cases hj
theorem rb_none (hp : noPole l a n) (hi : blN (tab l a n) x n = none) (h : RbPost l a n x w e w') : e = .returned (.tuple #[.int .i64 0, .int .i64 7]) ∧ Below w.heap.size w w' := by
  obtain ⟨hb, ⟨h, _⟩ | ⟨_, ⟨j, hj, _⟩ | ⟨_, he⟩⟩⟩ := h
  · exact absurd hp h
  · rw [hi] at hj; cases hj
  · exact ⟨he, hb⟩
end
theorem lawTab_any (A : Option Addr) (n c : Nat) (l : List El) (a b : Int) (x' : Rt) (w : World) (hV : VarsN w) (hR : Reads w w.heap.size 3 A n (els l)) :
    Calls Tryz.prog 5 #[.slice A n c, .agg #[.int .i64 a, .int .i64 b, .int .i64 x'.n, .int .i64 x'.d]] w fun e w' => e = .returned (.bool true) ∧ Below w.heap.size w w' := by
  by_cases hs : shortB l = true
  · have hn6 := shortT hR hs
    by_cases he : tabErr l a b = 0
    · obtain ⟨hl, ha, hb, hab⟩ := tab_zero he
      obtain ⟨k, hk⟩ : ∃ k : Nat, (k : Int) = b - a + 1 := ⟨(b - a + 1).toNat, by omega⟩
      have hk8 : k ≤ 100 := by omega
      have tbk : ∀ A c w, Con w → Reads w w.heap.size 3 A n (els l) → Calls Tryz.prog 29 #[.slice A n c, .int .i64 a, .int .i64 b] w (LvPost l a k w) := fun A c w hC h => Table_ok l a b A n c k w hC he hk (by omega) h
      have pkk : ∀ A c w, Con w → Reads w w.heap.size 3 A n (els l) → Calls Tryz.prog 30 #[.slice A n c, .int .i64 a, .int .i64 b] w (PkPost l a k w) := fun A c w hC h => Peak_ok l a b A n c k w hC he hk (by omega) h
      have rtk := fun w h => rTable_ok l a b A n c k w he hk h
      have rpk := fun w h => rPeak_ok l a b A n c k w he hk h
      by_cases hx : lvlErr x' = 0
      · have blk := fun A c w hC h => Below_ok l a b x' A n c k w hC he hk hx (by omega) h
        have rbk := fun w h => rBelow_ok l a b x' A n c k w he hk (lvl_in hx) h
        by_cases hp : noPole l a k
        · cases hi : blN (tab l a k) x' k with
          | some i => exact lawTab_good A n c l a b x' w hV hR hs he hx k (tab l a k) 0 (a + pkN (tab l a k) k) 0 (a + i) 0 hk8 ⟨fun A c w hC h => (tbk A c w hC h).mono fun _ _ q => lv_np hp q, fun A c w hC h => (pkk A c w hC h).mono fun _ _ q => pk_np hp q, fun A c w hC h => (blk A c w hC h).mono fun _ _ q => bl_hit hx hp hi q⟩ ⟨fun w h => (rtk w h).mono fun _ _ q => lv_np hp q, fun w h => (rpk w h).mono fun _ _ q => pk_np hp q⟩ fun w h => (rbk w h).mono fun _ _ q => rb_hit hp hi q
          | none => exact lawTab_good A n c l a b x' w hV hR hs he hx k (tab l a k) 0 (a + pkN (tab l a k) k) 0 0 7 hk8 ⟨fun A c w hC h => (tbk A c w hC h).mono fun _ _ q => lv_np hp q, fun A c w hC h => (pkk A c w hC h).mono fun _ _ q => pk_np hp q, fun A c w hC h => (blk A c w hC h).mono fun _ _ q => bl_none hx hp hi q⟩ ⟨fun w h => (rtk w h).mono fun _ _ q => lv_np hp q, fun w h => (rpk w h).mono fun _ _ q => pk_np hp q⟩ fun w h => (rbk w h).mono fun _ _ q => rb_none hp hi q
        · exact lawTab_good A n c l a b x' w hV hR hs he hx 0 [] 17 0 17 0 17 (by omega) ⟨fun A c w hC h => (tbk A c w hC h).mono fun _ _ q => lv_po hp q, fun A c w hC h => (pkk A c w hC h).mono fun _ _ q => pk_po hp q, fun A c w hC h => (blk A c w hC h).mono fun _ _ q => bl_po hx hp q⟩ ⟨fun w h => (rtk w h).mono fun _ _ q => lv_po hp q, fun w h => (rpk w h).mono fun _ _ q => pk_po hp q⟩ fun w h => (rbk w h).mono fun _ _ q => rb_po hp q
      · have blk := fun A c w hC h => (Below_no l a b x' A n c k w hC he hk hx (by omega) h).mono fun _ _ q => bl_no hx q
        by_cases hp : noPole l a k
        · exact lawTab_nolev A n c l a b x' w hV hR hs he (lvlErr x') rfl hx k (tab l a k) 0 (a + pkN (tab l a k) k) 0 hk8 ⟨fun A c w hC h => (tbk A c w hC h).mono fun _ _ q => lv_np hp q, fun A c w hC h => (pkk A c w hC h).mono fun _ _ q => pk_np hp q, blk⟩ ⟨fun w h => (rtk w h).mono fun _ _ q => lv_np hp q, fun w h => (rpk w h).mono fun _ _ q => pk_np hp q⟩
        · exact lawTab_nolev A n c l a b x' w hV hR hs he (lvlErr x') rfl hx 0 [] 17 0 17 (by omega) ⟨fun A c w hC h => (tbk A c w hC h).mono fun _ _ q => lv_po hp q, fun A c w hC h => (pkk A c w hC h).mono fun _ _ q => pk_po hp q, blk⟩ ⟨fun w h => (rtk w h).mono fun _ _ q => lv_po hp q, fun w h => (rpk w h).mono fun _ _ q => pk_po hp q⟩
    · exact lawTab_bad A n c l a b x' w hV hR hs (tabErr l a b) rfl he (lvlErr x') rfl ⟨fun A c w _ h => (Table_bad l a b A n c w he (by omega) h).mono fun _ _ q => ⟨none, 0, q.1, Reads.none_, q.2⟩, fun A c w _ h => Peak_bad l a b A n c w he (by omega) h, fun A c w _ h => Below_bad l a b x' A n c w he (by omega) h⟩
  · exact lawTab_long A n c l a b x' w hV hR (by simpa using hs)
end Go.Proofs.YtnndaipnfniciaaGreatDoor
