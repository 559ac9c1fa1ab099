/- The law NetworkReads. -/
import Derived.Test.YtnndaipnfniciaaGreatDoorNLawTxt
import Derived.Test.YtnndaipnfniciaaGreatDoorNTxtP
import Derived.Test.YtnndaipnfniciaaGreatDoorNSamL
import Derived.Test.YtnndaipnfniciaaGreatDoorNRev
import Derived.Test.YtnndaipnfniciaaGreatDoorNDual
namespace Go.Proofs.YtnndaipnfniciaaGreatDoor
open Go.RowKit Go.Shelf
set_option maxRecDepth 100000
set_option maxHeartbeats 8000000 in
theorem lawRd_long (A : Option Addr) (n c : Nat) (s : ByteArray) (w : World) (hV : VarsT w) (t1 : decide (200 < (s.size : Int)) = true) :
    Calls Tryz.prog 13 #[.slice A n c, .string s] w fun e w' => e = .returned (.bool true) ∧ Below w.heap.size w w' := by
  go_enter Tryz.func13, Tryz.ntmps13
  go_wp2_with fail
  refine (awake_any _ (hV.n.con.carry (by repeat (first | with_reducible assumption | exact Below.refl _ _ | refine below_next (by with_reducible assumption) ?_))) (hV.n.tur.carry (by repeat (first | with_reducible assumption | exact Below.refl _ _ | refine below_next (by with_reducible assumption) ?_))) (hV.n.ten.carry (by repeat (first | with_reducible assumption | exact Below.refl _ _ | refine below_next (by with_reducible assumption) ?_)))).mono ?_
  rintro e wz ⟨rfl, hbz⟩
  go_wp2_with fail
  go_ret
  exact ⟨rfl, (by repeat (first | with_reducible assumption | exact Below.refl _ _ | refine below_next (by with_reducible assumption) ?_))⟩
/-- What the law asks of the ladder: that the printed text reads back, and cut does not. -/
structure Rdl (n : Nat) (l : List El) (T : ByteArray) (m : Nat) (L : List El) (E : Int) : Prop where
  pr : ladTxt l = T
  a : ∀ W, TxV W → Calls Tryz.prog 77 #[.string T] W (PrAt n l 0 W)
  b : ∀ W, TxV W → Calls Tryz.prog 77 #[.string (T.extract 0 (T.size - 1))] W (PrAt m L E W)
  t4 : 4 ≤ T.size
  tm : T.size ≤ 1000
  m5 : m ≤ 5
  ne : E = 0 → ¬ L = l
theorem rdl_of {l : List El} (h : ladErr l = 0) : ∃ T m L E, Rdl l.length l T m L E := by
  obtain ⟨h1, h2, h3⟩ := prs_txt h
  have he : ((ladTxt l).extract 0 ((ladTxt l).size - 1)).data.toList = (ladTxt l).data.toList.take ((ladTxt l).size - 1) := by rw [ext_data, List.drop_zero]
  refine ⟨ladTxt l, _, _, _, ⟨rfl, fun W hW => ?_, fun W hW => Parse_any _ W hW, h2, h3, prs_len _, ?_⟩⟩
  · have := Parse_any (ladTxt l) W hW
    unfold PrPost at this
    rw [h1] at this
    exact this
  · rw [he]
    exact prs_cut h
set_option maxHeartbeats 8000000 in
theorem lawRd_err (A : Option Addr) (n c : Nat) (l : List El) (s : ByteArray) (w : World) (hV : VarsT w) (hR : Reads w w.heap.size 3 A n (els l)) (t1 : decide (200 < (s.size : Int)) = false) (p : Nat) (K : List El) (Q : Int) (hX : Txt s p K Q) (hP : Q = 0 → ladErr K = 0 ∧ ladTxt K = s) (h0 : ¬ ladErr l = 0) :
    Calls Tryz.prog 13 #[.slice A n c, .string s] w fun e w' => e = .returned (.bool true) ∧ Below w.heap.size w w' := by
  have HX := hide hX
  have t0 : (ladErr l != 0) = true := by simpa using h0
  clear hX h0
  by_cases hq : Q = 0
  · subst hq
    obtain ⟨hP1, hP2⟩ := hP rfl
    have HP1 := hide hP1
    have HP2 := hide hP2
    clear hP hP1 hP2
    go_enter Tryz.func13, Tryz.ntmps13
    go_wp2_with fail
    refine (HX.out.a _ hV.x).mono ?_
    rintro e w1 ⟨A1, c1, rfl, r1, hb1⟩
    go_wp2_with fail
    refine (Print_ok A1 p c1 K _ (hV.x.ten.carry (by repeat (first | with_reducible assumption | exact Below.refl _ _ | refine below_next (by with_reducible assumption) ?_))) r1 HP1.out).mono ?_
    rintro e w2 ⟨rfl, hb2⟩
    rw [HP2.out]
    go_wp2_with fail
    refine (rCheckLadder_all A n c l _ (carry hR (by repeat (first | with_reducible assumption | exact Below.refl _ _ | refine below_next (by with_reducible assumption) ?_)))).mono ?_
    rintro e w3 ⟨rfl, hb3⟩
    go_wp2_with fail
    refine (awake_any _ (hV.n.con.carry (by repeat (first | with_reducible assumption | exact Below.refl _ _ | refine below_next (by with_reducible assumption) ?_))) (hV.n.tur.carry (by repeat (first | with_reducible assumption | exact Below.refl _ _ | refine below_next (by with_reducible assumption) ?_))) (hV.n.ten.carry (by repeat (first | with_reducible assumption | exact Below.refl _ _ | refine below_next (by with_reducible assumption) ?_)))).mono ?_
    rintro e wz ⟨rfl, hbz⟩
    go_wp2_with fail
    go_ret
    exact ⟨rfl, (by repeat (first | with_reducible assumption | exact Below.refl _ _ | refine below_next (by with_reducible assumption) ?_))⟩
  · have tq : (Q == 0) = false := by simpa using hq
    clear hP hq
    go_enter Tryz.func13, Tryz.ntmps13
    go_wp2_with fail
    refine (HX.out.a _ hV.x).mono ?_
    rintro e w1 ⟨A1, c1, rfl, r1, hb1⟩
    go_wp2_with fail
    refine (rCheckLadder_all A n c l _ (carry hR (by repeat (first | with_reducible assumption | exact Below.refl _ _ | refine below_next (by with_reducible assumption) ?_)))).mono ?_
    rintro e w3 ⟨rfl, hb3⟩
    go_wp2_with fail
    refine (awake_any _ (hV.n.con.carry (by repeat (first | with_reducible assumption | exact Below.refl _ _ | refine below_next (by with_reducible assumption) ?_))) (hV.n.tur.carry (by repeat (first | with_reducible assumption | exact Below.refl _ _ | refine below_next (by with_reducible assumption) ?_))) (hV.n.ten.carry (by repeat (first | with_reducible assumption | exact Below.refl _ _ | refine below_next (by with_reducible assumption) ?_)))).mono ?_
    rintro e wz ⟨rfl, hbz⟩
    go_wp2_with fail
    go_ret
    exact ⟨rfl, (by repeat (first | with_reducible assumption | exact Below.refl _ _ | refine below_next (by with_reducible assumption) ?_))⟩
set_option maxHeartbeats 8000000 in
theorem lawRd_good00 (A : Option Addr) (n c : Nat) (l : List El) (s : ByteArray) (w : World) (hV : VarsT w) (hR : Reads w w.heap.size 3 A n (els l)) (t1 : decide (200 < (s.size : Int)) = false) (p : Nat) (K : List El) (Q : Int) (hX : Txt s p K Q) (hP : Q = 0 → ladErr K = 0 ∧ ladTxt K = s) (h0 : ladErr l = 0) (T : ByteArray) (m : Nat) (L : List El) (E : Int) (hD : Rdl n l T m L E) (hE : E = 0) (hq : Q = 0) :
    Calls Tryz.prog 13 #[.slice A n c, .string s] w fun e w' => e = .returned (.bool true) ∧ Below w.heap.size w w' := by
  have HNE := hide (hD.ne hE)
  subst hE
  have HX := hide hX
  have HD := hide hD
  have hm5 := hD.m5
  have t4 : decide ((T.size : Int) < 4) = false := decide_eq_false (by have := hD.t4; omega)
  have hts : T.size ≤ 1000 := hD.tm
  have htf : 4 ≤ T.size := hD.t4
  have hok := lad_ok h0
  have hn5 : n ≤ 5 := by rw [← els_reads_len hR]; exact hok.len
  have H0 := hide h0
  have HRV := hide (ok_lad (lad_revT hok))
  have HDU := hide (ok_lad (lad_dualT hok))
  have HDD := hide (map_dual_dual hok)
  clear hX h0 hD hok
  subst hq
  obtain ⟨hP1, hP2⟩ := hP rfl
  have HP1 := hide hP1
  have HP2 := hide hP2
  clear hP hP1 hP2
  go_enter Tryz.func13, Tryz.ntmps13
  go_wp2_with fail
  refine (HX.out.a _ hV.x).mono ?_
  rintro e w1 ⟨A1, c1, rfl, r1, hb1⟩
  go_wp2_with fail
  refine (Print_ok A1 p c1 K _ (hV.x.ten.carry (by repeat (first | with_reducible assumption | exact Below.refl _ _ | refine below_next (by with_reducible assumption) ?_))) r1 HP1.out).mono ?_
  rintro e w2 ⟨rfl, hb2⟩
  rw [HP2.out]
  go_wp2_with fail
  refine (rCheckLadder_all A n c l _ (carry hR (by repeat (first | with_reducible assumption | exact Below.refl _ _ | refine below_next (by with_reducible assumption) ?_)))).mono ?_
  rintro e w3 ⟨rfl, hb3⟩
  rw [H0.out]
  go_wp2_with fail
  refine (ladder_lad A n c l _ (carry hR (by repeat (first | with_reducible assumption | exact Below.refl _ _ | refine below_next (by with_reducible assumption) ?_))) (by omega)).mono ?_
  rintro e w4 ⟨A4, c4, rfl, r4, hb4⟩
  go_wp2_with fail
  refine (Print_ok A4 n c4 l _ (hV.x.ten.carry (by repeat (first | with_reducible assumption | exact Below.refl _ _ | refine below_next (by with_reducible assumption) ?_))) r4 H0.out).mono ?_
  rintro e w5 ⟨rfl, hb5⟩
  rw [HD.out.pr]
  go_wp2_with fail
  refine (HD.out.a _ (hV.x.carry (by repeat (first | with_reducible assumption | exact Below.refl _ _ | refine below_next (by with_reducible assumption) ?_)))).mono ?_
  rintro e w6 ⟨A6, c6, rfl, r6, hb6⟩
  go_wp2_with fail
  refine (ladder_lad A n c l _ (carry hR (by repeat (first | with_reducible assumption | exact Below.refl _ _ | refine below_next (by with_reducible assumption) ?_))) (by omega)).mono ?_
  rintro e w7 ⟨A7, c7, rfl, r7, hb7⟩
  go_wp2_with fail
  refine (Reverse_ok A7 n c7 l _ r7 H0.out).mono ?_
  rintro e w8 ⟨A8, c8, rfl, r8, hb8⟩
  go_wp2_with fail
  refine (Reverse_ok A8 n c8 l.reverse _ r8 HRV.out).mono ?_
  rintro e w9 ⟨A9, c9, rfl, r9, hb9⟩
  rw [List.reverse_reverse] at r9
  go_wp2_with fail
  refine (ladder_lad A n c l _ (carry hR (by repeat (first | with_reducible assumption | exact Below.refl _ _ | refine below_next (by with_reducible assumption) ?_))) (by omega)).mono ?_
  rintro e wa ⟨Aa, ca, rfl, ra, hba⟩
  go_wp2_with fail
  refine (Dual_ok Aa n ca l _ ra H0.out).mono ?_
  rintro e wb ⟨Ab, cb, rfl, rb, hbb⟩
  go_wp2_with fail
  refine (Dual_ok Ab n cb (l.map El.dual) _ rb HDU.out).mono ?_
  rintro e wd ⟨Ad, cd, rfl, rd, hbd⟩
  rw [HDD.out] at rd
  go_wp2_with fail
  refine (told_lad A6 n c6 l _ (carry r6 (by repeat (first | with_reducible assumption | exact Below.refl _ _ | refine below_next (by with_reducible assumption) ?_))) (by omega)).mono ?_
  rintro e we ⟨Ae, ce, rfl, re, hbe⟩
  go_wp2_with fail
  refine (sameLadder_true Ae n ce l A c _ re (carry hR (by repeat (first | with_reducible assumption | exact Below.refl _ _ | refine below_next (by with_reducible assumption) ?_))) (by omega)).mono ?_
  rintro e wf ⟨rfl, hbf⟩
  go_wp2_with fail
  refine (told_lad A9 n c9 l _ (carry r9 (by repeat (first | with_reducible assumption | exact Below.refl _ _ | refine below_next (by with_reducible assumption) ?_))) (by omega)).mono ?_
  rintro e wg ⟨Ag, cg, rfl, rg, hbg⟩
  go_wp2_with fail
  refine (sameLadder_true Ag n cg l A c _ rg (carry hR (by repeat (first | with_reducible assumption | exact Below.refl _ _ | refine below_next (by with_reducible assumption) ?_))) (by omega)).mono ?_
  rintro e wh ⟨rfl, hbh⟩
  go_wp2_with fail
  refine (told_lad Ad n cd l _ (carry rd (by repeat (first | with_reducible assumption | exact Below.refl _ _ | refine below_next (by with_reducible assumption) ?_))) (by omega)).mono ?_
  rintro e wi ⟨Ai, ci, rfl, ri, hbi⟩
  go_wp2_with fail
  refine (sameLadder_true Ai n ci l A c _ ri (carry hR (by repeat (first | with_reducible assumption | exact Below.refl _ _ | refine below_next (by with_reducible assumption) ?_))) (by omega)).mono ?_
  rintro e wj ⟨rfl, hbj⟩
  go_wp2_with fail
  refine (HD.out.b _ (hV.x.carry (by repeat (first | with_reducible assumption | exact Below.refl _ _ | refine below_next (by with_reducible assumption) ?_)))).mono ?_
  rintro e w12 ⟨A12, c12, rfl, r12, hb12⟩
  go_wp2_with fail
  refine (told_lad A12 m c12 L _ (carry r12 (by repeat (first | with_reducible assumption | exact Below.refl _ _ | refine below_next (by with_reducible assumption) ?_))) (by omega)).mono ?_
  rintro e w19 ⟨A19, c19, rfl, r19, hb19⟩
  go_wp2_with fail
  refine (sameLadder_ne A19 m c19 L A n c l _ r19 (carry hR (by repeat (first | with_reducible assumption | exact Below.refl _ _ | refine below_next (by with_reducible assumption) ?_))) (by omega) HNE.out).mono ?_
  rintro e w20 ⟨rfl, hb20⟩
  go_wp2_with fail
  refine (awake_any _ (hV.n.con.carry (by repeat (first | with_reducible assumption | exact Below.refl _ _ | refine below_next (by with_reducible assumption) ?_))) (hV.n.tur.carry (by repeat (first | with_reducible assumption | exact Below.refl _ _ | refine below_next (by with_reducible assumption) ?_))) (hV.n.ten.carry (by repeat (first | with_reducible assumption | exact Below.refl _ _ | refine below_next (by with_reducible assumption) ?_)))).mono ?_
  rintro e wz ⟨rfl, hbz⟩
  go_wp2_with fail
  go_ret
  exact ⟨rfl, (by repeat (first | with_reducible assumption | exact Below.refl _ _ | refine below_next (by with_reducible assumption) ?_))⟩
set_option maxHeartbeats 8000000 in
theorem lawRd_good01 (A : Option Addr) (n c : Nat) (l : List El) (s : ByteArray) (w : World) (hV : VarsT w) (hR : Reads w w.heap.size 3 A n (els l)) (t1 : decide (200 < (s.size : Int)) = false) (p : Nat) (K : List El) (Q : Int) (hX : Txt s p K Q)  (h0 : ladErr l = 0) (T : ByteArray) (m : Nat) (L : List El) (E : Int) (hD : Rdl n l T m L E) (hE : E = 0) (hq : ¬ Q = 0) :
    Calls Tryz.prog 13 #[.slice A n c, .string s] w fun e w' => e = .returned (.bool true) ∧ Below w.heap.size w w' := by
  have HNE := hide (hD.ne hE)
  subst hE
  have HX := hide hX
  have HD := hide hD
  have hm5 := hD.m5
  have t4 : decide ((T.size : Int) < 4) = false := decide_eq_false (by have := hD.t4; omega)
  have hts : T.size ≤ 1000 := hD.tm
  have htf : 4 ≤ T.size := hD.t4
  have hok := lad_ok h0
  have hn5 : n ≤ 5 := by rw [← els_reads_len hR]; exact hok.len
  have H0 := hide h0
  have HRV := hide (ok_lad (lad_revT hok))
  have HDU := hide (ok_lad (lad_dualT hok))
  have HDD := hide (map_dual_dual hok)
  clear hX h0 hD hok
  have tq : (Q == 0) = false := by simpa using hq
  clear hq
  go_enter Tryz.func13, Tryz.ntmps13
  go_wp2_with fail
  refine (HX.out.a _ hV.x).mono ?_
  rintro e w1 ⟨A1, c1, rfl, r1, hb1⟩
  go_wp2_with fail
  refine (rCheckLadder_all A n c l _ (carry hR (by repeat (first | with_reducible assumption | exact Below.refl _ _ | refine below_next (by with_reducible assumption) ?_)))).mono ?_
  rintro e w3 ⟨rfl, hb3⟩
  rw [H0.out]
  go_wp2_with fail
  refine (ladder_lad A n c l _ (carry hR (by repeat (first | with_reducible assumption | exact Below.refl _ _ | refine below_next (by with_reducible assumption) ?_))) (by omega)).mono ?_
  rintro e w4 ⟨A4, c4, rfl, r4, hb4⟩
  go_wp2_with fail
  refine (Print_ok A4 n c4 l _ (hV.x.ten.carry (by repeat (first | with_reducible assumption | exact Below.refl _ _ | refine below_next (by with_reducible assumption) ?_))) r4 H0.out).mono ?_
  rintro e w5 ⟨rfl, hb5⟩
  rw [HD.out.pr]
  go_wp2_with fail
  refine (HD.out.a _ (hV.x.carry (by repeat (first | with_reducible assumption | exact Below.refl _ _ | refine below_next (by with_reducible assumption) ?_)))).mono ?_
  rintro e w6 ⟨A6, c6, rfl, r6, hb6⟩
  go_wp2_with fail
  refine (ladder_lad A n c l _ (carry hR (by repeat (first | with_reducible assumption | exact Below.refl _ _ | refine below_next (by with_reducible assumption) ?_))) (by omega)).mono ?_
  rintro e w7 ⟨A7, c7, rfl, r7, hb7⟩
  go_wp2_with fail
  refine (Reverse_ok A7 n c7 l _ r7 H0.out).mono ?_
  rintro e w8 ⟨A8, c8, rfl, r8, hb8⟩
  go_wp2_with fail
  refine (Reverse_ok A8 n c8 l.reverse _ r8 HRV.out).mono ?_
  rintro e w9 ⟨A9, c9, rfl, r9, hb9⟩
  rw [List.reverse_reverse] at r9
  go_wp2_with fail
  refine (ladder_lad A n c l _ (carry hR (by repeat (first | with_reducible assumption | exact Below.refl _ _ | refine below_next (by with_reducible assumption) ?_))) (by omega)).mono ?_
  rintro e wa ⟨Aa, ca, rfl, ra, hba⟩
  go_wp2_with fail
  refine (Dual_ok Aa n ca l _ ra H0.out).mono ?_
  rintro e wb ⟨Ab, cb, rfl, rb, hbb⟩
  go_wp2_with fail
  refine (Dual_ok Ab n cb (l.map El.dual) _ rb HDU.out).mono ?_
  rintro e wd ⟨Ad, cd, rfl, rd, hbd⟩
  rw [HDD.out] at rd
  go_wp2_with fail
  refine (told_lad A6 n c6 l _ (carry r6 (by repeat (first | with_reducible assumption | exact Below.refl _ _ | refine below_next (by with_reducible assumption) ?_))) (by omega)).mono ?_
  rintro e we ⟨Ae, ce, rfl, re, hbe⟩
  go_wp2_with fail
  refine (sameLadder_true Ae n ce l A c _ re (carry hR (by repeat (first | with_reducible assumption | exact Below.refl _ _ | refine below_next (by with_reducible assumption) ?_))) (by omega)).mono ?_
  rintro e wf ⟨rfl, hbf⟩
  go_wp2_with fail
  refine (told_lad A9 n c9 l _ (carry r9 (by repeat (first | with_reducible assumption | exact Below.refl _ _ | refine below_next (by with_reducible assumption) ?_))) (by omega)).mono ?_
  rintro e wg ⟨Ag, cg, rfl, rg, hbg⟩
  go_wp2_with fail
  refine (sameLadder_true Ag n cg l A c _ rg (carry hR (by repeat (first | with_reducible assumption | exact Below.refl _ _ | refine below_next (by with_reducible assumption) ?_))) (by omega)).mono ?_
  rintro e wh ⟨rfl, hbh⟩
  go_wp2_with fail
  refine (told_lad Ad n cd l _ (carry rd (by repeat (first | with_reducible assumption | exact Below.refl _ _ | refine below_next (by with_reducible assumption) ?_))) (by omega)).mono ?_
  rintro e wi ⟨Ai, ci, rfl, ri, hbi⟩
  go_wp2_with fail
  refine (sameLadder_true Ai n ci l A c _ ri (carry hR (by repeat (first | with_reducible assumption | exact Below.refl _ _ | refine below_next (by with_reducible assumption) ?_))) (by omega)).mono ?_
  rintro e wj ⟨rfl, hbj⟩
  go_wp2_with fail
  refine (HD.out.b _ (hV.x.carry (by repeat (first | with_reducible assumption | exact Below.refl _ _ | refine below_next (by with_reducible assumption) ?_)))).mono ?_
  rintro e w12 ⟨A12, c12, rfl, r12, hb12⟩
  go_wp2_with fail
  refine (told_lad A12 m c12 L _ (carry r12 (by repeat (first | with_reducible assumption | exact Below.refl _ _ | refine below_next (by with_reducible assumption) ?_))) (by omega)).mono ?_
  rintro e w19 ⟨A19, c19, rfl, r19, hb19⟩
  go_wp2_with fail
  refine (sameLadder_ne A19 m c19 L A n c l _ r19 (carry hR (by repeat (first | with_reducible assumption | exact Below.refl _ _ | refine below_next (by with_reducible assumption) ?_))) (by omega) HNE.out).mono ?_
  rintro e w20 ⟨rfl, hb20⟩
  go_wp2_with fail
  refine (awake_any _ (hV.n.con.carry (by repeat (first | with_reducible assumption | exact Below.refl _ _ | refine below_next (by with_reducible assumption) ?_))) (hV.n.tur.carry (by repeat (first | with_reducible assumption | exact Below.refl _ _ | refine below_next (by with_reducible assumption) ?_))) (hV.n.ten.carry (by repeat (first | with_reducible assumption | exact Below.refl _ _ | refine below_next (by with_reducible assumption) ?_)))).mono ?_
  rintro e wz ⟨rfl, hbz⟩
  go_wp2_with fail
  go_ret
  exact ⟨rfl, (by repeat (first | with_reducible assumption | exact Below.refl _ _ | refine below_next (by with_reducible assumption) ?_))⟩
set_option maxHeartbeats 8000000 in
theorem lawRd_good10 (A : Option Addr) (n c : Nat) (l : List El) (s : ByteArray) (w : World) (hV : VarsT w) (hR : Reads w w.heap.size 3 A n (els l)) (t1 : decide (200 < (s.size : Int)) = false) (p : Nat) (K : List El) (Q : Int) (hX : Txt s p K Q) (hP : Q = 0 → ladErr K = 0 ∧ ladTxt K = s) (h0 : ladErr l = 0) (T : ByteArray) (m : Nat) (L : List El) (E : Int) (hD : Rdl n l T m L E) (hE : ¬ E = 0) (hq : Q = 0) :
    Calls Tryz.prog 13 #[.slice A n c, .string s] w fun e w' => e = .returned (.bool true) ∧ Below w.heap.size w w' := by
  have tE : (E != 0) = true := by simpa using hE
  clear hE
  have HX := hide hX
  have HD := hide hD
  have hm5 := hD.m5
  have t4 : decide ((T.size : Int) < 4) = false := decide_eq_false (by have := hD.t4; omega)
  have hts : T.size ≤ 1000 := hD.tm
  have htf : 4 ≤ T.size := hD.t4
  have hok := lad_ok h0
  have hn5 : n ≤ 5 := by rw [← els_reads_len hR]; exact hok.len
  have H0 := hide h0
  have HRV := hide (ok_lad (lad_revT hok))
  have HDU := hide (ok_lad (lad_dualT hok))
  have HDD := hide (map_dual_dual hok)
  clear hX h0 hD hok
  subst hq
  obtain ⟨hP1, hP2⟩ := hP rfl
  have HP1 := hide hP1
  have HP2 := hide hP2
  clear hP hP1 hP2
  go_enter Tryz.func13, Tryz.ntmps13
  go_wp2_with fail
  refine (HX.out.a _ hV.x).mono ?_
  rintro e w1 ⟨A1, c1, rfl, r1, hb1⟩
  go_wp2_with fail
  refine (Print_ok A1 p c1 K _ (hV.x.ten.carry (by repeat (first | with_reducible assumption | exact Below.refl _ _ | refine below_next (by with_reducible assumption) ?_))) r1 HP1.out).mono ?_
  rintro e w2 ⟨rfl, hb2⟩
  rw [HP2.out]
  go_wp2_with fail
  refine (rCheckLadder_all A n c l _ (carry hR (by repeat (first | with_reducible assumption | exact Below.refl _ _ | refine below_next (by with_reducible assumption) ?_)))).mono ?_
  rintro e w3 ⟨rfl, hb3⟩
  rw [H0.out]
  go_wp2_with fail
  refine (ladder_lad A n c l _ (carry hR (by repeat (first | with_reducible assumption | exact Below.refl _ _ | refine below_next (by with_reducible assumption) ?_))) (by omega)).mono ?_
  rintro e w4 ⟨A4, c4, rfl, r4, hb4⟩
  go_wp2_with fail
  refine (Print_ok A4 n c4 l _ (hV.x.ten.carry (by repeat (first | with_reducible assumption | exact Below.refl _ _ | refine below_next (by with_reducible assumption) ?_))) r4 H0.out).mono ?_
  rintro e w5 ⟨rfl, hb5⟩
  rw [HD.out.pr]
  go_wp2_with fail
  refine (HD.out.a _ (hV.x.carry (by repeat (first | with_reducible assumption | exact Below.refl _ _ | refine below_next (by with_reducible assumption) ?_)))).mono ?_
  rintro e w6 ⟨A6, c6, rfl, r6, hb6⟩
  go_wp2_with fail
  refine (ladder_lad A n c l _ (carry hR (by repeat (first | with_reducible assumption | exact Below.refl _ _ | refine below_next (by with_reducible assumption) ?_))) (by omega)).mono ?_
  rintro e w7 ⟨A7, c7, rfl, r7, hb7⟩
  go_wp2_with fail
  refine (Reverse_ok A7 n c7 l _ r7 H0.out).mono ?_
  rintro e w8 ⟨A8, c8, rfl, r8, hb8⟩
  go_wp2_with fail
  refine (Reverse_ok A8 n c8 l.reverse _ r8 HRV.out).mono ?_
  rintro e w9 ⟨A9, c9, rfl, r9, hb9⟩
  rw [List.reverse_reverse] at r9
  go_wp2_with fail
  refine (ladder_lad A n c l _ (carry hR (by repeat (first | with_reducible assumption | exact Below.refl _ _ | refine below_next (by with_reducible assumption) ?_))) (by omega)).mono ?_
  rintro e wa ⟨Aa, ca, rfl, ra, hba⟩
  go_wp2_with fail
  refine (Dual_ok Aa n ca l _ ra H0.out).mono ?_
  rintro e wb ⟨Ab, cb, rfl, rb, hbb⟩
  go_wp2_with fail
  refine (Dual_ok Ab n cb (l.map El.dual) _ rb HDU.out).mono ?_
  rintro e wd ⟨Ad, cd, rfl, rd, hbd⟩
  rw [HDD.out] at rd
  go_wp2_with fail
  refine (told_lad A6 n c6 l _ (carry r6 (by repeat (first | with_reducible assumption | exact Below.refl _ _ | refine below_next (by with_reducible assumption) ?_))) (by omega)).mono ?_
  rintro e we ⟨Ae, ce, rfl, re, hbe⟩
  go_wp2_with fail
  refine (sameLadder_true Ae n ce l A c _ re (carry hR (by repeat (first | with_reducible assumption | exact Below.refl _ _ | refine below_next (by with_reducible assumption) ?_))) (by omega)).mono ?_
  rintro e wf ⟨rfl, hbf⟩
  go_wp2_with fail
  refine (told_lad A9 n c9 l _ (carry r9 (by repeat (first | with_reducible assumption | exact Below.refl _ _ | refine below_next (by with_reducible assumption) ?_))) (by omega)).mono ?_
  rintro e wg ⟨Ag, cg, rfl, rg, hbg⟩
  go_wp2_with fail
  refine (sameLadder_true Ag n cg l A c _ rg (carry hR (by repeat (first | with_reducible assumption | exact Below.refl _ _ | refine below_next (by with_reducible assumption) ?_))) (by omega)).mono ?_
  rintro e wh ⟨rfl, hbh⟩
  go_wp2_with fail
  refine (told_lad Ad n cd l _ (carry rd (by repeat (first | with_reducible assumption | exact Below.refl _ _ | refine below_next (by with_reducible assumption) ?_))) (by omega)).mono ?_
  rintro e wi ⟨Ai, ci, rfl, ri, hbi⟩
  go_wp2_with fail
  refine (sameLadder_true Ai n ci l A c _ ri (carry hR (by repeat (first | with_reducible assumption | exact Below.refl _ _ | refine below_next (by with_reducible assumption) ?_))) (by omega)).mono ?_
  rintro e wj ⟨rfl, hbj⟩
  go_wp2_with fail
  refine (HD.out.b _ (hV.x.carry (by repeat (first | with_reducible assumption | exact Below.refl _ _ | refine below_next (by with_reducible assumption) ?_)))).mono ?_
  rintro e w12 ⟨A12, c12, rfl, r12, hb12⟩
  go_wp2_with fail
  refine (awake_any _ (hV.n.con.carry (by repeat (first | with_reducible assumption | exact Below.refl _ _ | refine below_next (by with_reducible assumption) ?_))) (hV.n.tur.carry (by repeat (first | with_reducible assumption | exact Below.refl _ _ | refine below_next (by with_reducible assumption) ?_))) (hV.n.ten.carry (by repeat (first | with_reducible assumption | exact Below.refl _ _ | refine below_next (by with_reducible assumption) ?_)))).mono ?_
  rintro e wz ⟨rfl, hbz⟩
  go_wp2_with fail
  go_ret
  exact ⟨rfl, (by repeat (first | with_reducible assumption | exact Below.refl _ _ | refine below_next (by with_reducible assumption) ?_))⟩
set_option maxHeartbeats 8000000 in
theorem lawRd_good11 (A : Option Addr) (n c : Nat) (l : List El) (s : ByteArray) (w : World) (hV : VarsT w) (hR : Reads w w.heap.size 3 A n (els l)) (t1 : decide (200 < (s.size : Int)) = false) (p : Nat) (K : List El) (Q : Int) (hX : Txt s p K Q)  (h0 : ladErr l = 0) (T : ByteArray) (m : Nat) (L : List El) (E : Int) (hD : Rdl n l T m L E) (hE : ¬ E = 0) (hq : ¬ Q = 0) :
    Calls Tryz.prog 13 #[.slice A n c, .string s] w fun e w' => e = .returned (.bool true) ∧ Below w.heap.size w w' := by
  have tE : (E != 0) = true := by simpa using hE
  clear hE
  have HX := hide hX
  have HD := hide hD
  have hm5 := hD.m5
  have t4 : decide ((T.size : Int) < 4) = false := decide_eq_false (by have := hD.t4; omega)
  have hts : T.size ≤ 1000 := hD.tm
  have htf : 4 ≤ T.size := hD.t4
  have hok := lad_ok h0
  have hn5 : n ≤ 5 := by rw [← els_reads_len hR]; exact hok.len
  have H0 := hide h0
  have HRV := hide (ok_lad (lad_revT hok))
  have HDU := hide (ok_lad (lad_dualT hok))
  have HDD := hide (map_dual_dual hok)
  clear hX h0 hD hok
  have tq : (Q == 0) = false := by simpa using hq
  clear hq
  go_enter Tryz.func13, Tryz.ntmps13
  go_wp2_with fail
  refine (HX.out.a _ hV.x).mono ?_
  rintro e w1 ⟨A1, c1, rfl, r1, hb1⟩
  go_wp2_with fail
  refine (rCheckLadder_all A n c l _ (carry hR (by repeat (first | with_reducible assumption | exact Below.refl _ _ | refine below_next (by with_reducible assumption) ?_)))).mono ?_
  rintro e w3 ⟨rfl, hb3⟩
  rw [H0.out]
  go_wp2_with fail
  refine (ladder_lad A n c l _ (carry hR (by repeat (first | with_reducible assumption | exact Below.refl _ _ | refine below_next (by with_reducible assumption) ?_))) (by omega)).mono ?_
  rintro e w4 ⟨A4, c4, rfl, r4, hb4⟩
  go_wp2_with fail
  refine (Print_ok A4 n c4 l _ (hV.x.ten.carry (by repeat (first | with_reducible assumption | exact Below.refl _ _ | refine below_next (by with_reducible assumption) ?_))) r4 H0.out).mono ?_
  rintro e w5 ⟨rfl, hb5⟩
  rw [HD.out.pr]
  go_wp2_with fail
  refine (HD.out.a _ (hV.x.carry (by repeat (first | with_reducible assumption | exact Below.refl _ _ | refine below_next (by with_reducible assumption) ?_)))).mono ?_
  rintro e w6 ⟨A6, c6, rfl, r6, hb6⟩
  go_wp2_with fail
  refine (ladder_lad A n c l _ (carry hR (by repeat (first | with_reducible assumption | exact Below.refl _ _ | refine below_next (by with_reducible assumption) ?_))) (by omega)).mono ?_
  rintro e w7 ⟨A7, c7, rfl, r7, hb7⟩
  go_wp2_with fail
  refine (Reverse_ok A7 n c7 l _ r7 H0.out).mono ?_
  rintro e w8 ⟨A8, c8, rfl, r8, hb8⟩
  go_wp2_with fail
  refine (Reverse_ok A8 n c8 l.reverse _ r8 HRV.out).mono ?_
  rintro e w9 ⟨A9, c9, rfl, r9, hb9⟩
  rw [List.reverse_reverse] at r9
  go_wp2_with fail
  refine (ladder_lad A n c l _ (carry hR (by repeat (first | with_reducible assumption | exact Below.refl _ _ | refine below_next (by with_reducible assumption) ?_))) (by omega)).mono ?_
  rintro e wa ⟨Aa, ca, rfl, ra, hba⟩
  go_wp2_with fail
  refine (Dual_ok Aa n ca l _ ra H0.out).mono ?_
  rintro e wb ⟨Ab, cb, rfl, rb, hbb⟩
  go_wp2_with fail
  refine (Dual_ok Ab n cb (l.map El.dual) _ rb HDU.out).mono ?_
  rintro e wd ⟨Ad, cd, rfl, rd, hbd⟩
  rw [HDD.out] at rd
  go_wp2_with fail
  refine (told_lad A6 n c6 l _ (carry r6 (by repeat (first | with_reducible assumption | exact Below.refl _ _ | refine below_next (by with_reducible assumption) ?_))) (by omega)).mono ?_
  rintro e we ⟨Ae, ce, rfl, re, hbe⟩
  go_wp2_with fail
  refine (sameLadder_true Ae n ce l A c _ re (carry hR (by repeat (first | with_reducible assumption | exact Below.refl _ _ | refine below_next (by with_reducible assumption) ?_))) (by omega)).mono ?_
  rintro e wf ⟨rfl, hbf⟩
  go_wp2_with fail
  refine (told_lad A9 n c9 l _ (carry r9 (by repeat (first | with_reducible assumption | exact Below.refl _ _ | refine below_next (by with_reducible assumption) ?_))) (by omega)).mono ?_
  rintro e wg ⟨Ag, cg, rfl, rg, hbg⟩
  go_wp2_with fail
  refine (sameLadder_true Ag n cg l A c _ rg (carry hR (by repeat (first | with_reducible assumption | exact Below.refl _ _ | refine below_next (by with_reducible assumption) ?_))) (by omega)).mono ?_
  rintro e wh ⟨rfl, hbh⟩
  go_wp2_with fail
  refine (told_lad Ad n cd l _ (carry rd (by repeat (first | with_reducible assumption | exact Below.refl _ _ | refine below_next (by with_reducible assumption) ?_))) (by omega)).mono ?_
  rintro e wi ⟨Ai, ci, rfl, ri, hbi⟩
  go_wp2_with fail
  refine (sameLadder_true Ai n ci l A c _ ri (carry hR (by repeat (first | with_reducible assumption | exact Below.refl _ _ | refine below_next (by with_reducible assumption) ?_))) (by omega)).mono ?_
  rintro e wj ⟨rfl, hbj⟩
  go_wp2_with fail
  refine (HD.out.b _ (hV.x.carry (by repeat (first | with_reducible assumption | exact Below.refl _ _ | refine below_next (by with_reducible assumption) ?_)))).mono ?_
  rintro e w12 ⟨A12, c12, rfl, r12, hb12⟩
  go_wp2_with fail
  refine (awake_any _ (hV.n.con.carry (by repeat (first | with_reducible assumption | exact Below.refl _ _ | refine below_next (by with_reducible assumption) ?_))) (hV.n.tur.carry (by repeat (first | with_reducible assumption | exact Below.refl _ _ | refine below_next (by with_reducible assumption) ?_))) (hV.n.ten.carry (by repeat (first | with_reducible assumption | exact Below.refl _ _ | refine below_next (by with_reducible assumption) ?_)))).mono ?_
  rintro e wz ⟨rfl, hbz⟩
  go_wp2_with fail
  go_ret
  exact ⟨rfl, (by repeat (first | with_reducible assumption | exact Below.refl _ _ | refine below_next (by with_reducible assumption) ?_))⟩
set_option maxHeartbeats 8000000 in
theorem lawRd_any (A : Option Addr) (n c : Nat) (l : List El) (s : ByteArray) (w : World) (hV : VarsT w) (hR : Reads w w.heap.size 3 A n (els l))  :
    Calls Tryz.prog 13 #[.slice A n c, .string s] w fun e w' => e = .returned (.bool true) ∧ Below w.heap.size w w' := by
  cases t1 : decide (200 < (s.size : Int)) with
  | true => exact lawRd_long A n c s w hV t1
  | false =>
    have hX := txt_of s
    have hP : (prs s.data.toList).2 = 0 → ladErr (prs s.data.toList).1 = 0 ∧ ladTxt (prs s.data.toList).1 = s := fun h => ⟨(prs_back h).1, bytes_ext (prs_back h).2⟩
    by_cases h0 : ladErr l = 0
    · obtain ⟨T, m, L, E, hD⟩ := rdl_of h0
      rw [els_reads_len hR] at hD
      by_cases hE : E = 0
      · by_cases hq : (prs s.data.toList).2 = 0
        · exact lawRd_good00 A n c l s w hV hR t1 _ _ _ hX hP h0 T m L E hD hE hq
        · exact lawRd_good01 A n c l s w hV hR t1 _ _ _ hX h0 T m L E hD hE hq
      · by_cases hq : (prs s.data.toList).2 = 0
        · exact lawRd_good10 A n c l s w hV hR t1 _ _ _ hX hP h0 T m L E hD hE hq
        · exact lawRd_good11 A n c l s w hV hR t1 _ _ _ hX h0 T m L E hD hE hq
    · exact lawRd_err A n c l s w hV hR t1 _ _ _ hX hP h0
end Go.Proofs.YtnndaipnfniciaaGreatDoor
