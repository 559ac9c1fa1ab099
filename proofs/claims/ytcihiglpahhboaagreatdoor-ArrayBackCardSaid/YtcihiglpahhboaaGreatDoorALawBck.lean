/- The law ArrayBack: for all arguments it returns true. -/
import Derived.Test.YtcihiglpahhboaaGreatDoorALawTxt
namespace Go.Proofs.YtcihiglpahhboaaGreatDoor
open Go.RowKit Go.Shelf
set_option maxRecDepth 100000
/-- What the law asks of the sources: the printed text reads back, in lines, and cut it does not. -/
structure Bck (n : Nat) (l : List Src) (T : ByteArray) : Prop where
  pr : (⟨(txtS l).toArray⟩ : ByteArray) = T
  a : ∀ W, TxV W → Calls Tryz.prog 81 #[.string T] W (PsAt n l 0 0 W)
  sp : (spl 10 T.data.toList).length = n + 1
  tm : T.size ≤ 10000
theorem txt_size {l : List Src} (h : LOk l) (h8 : l.length ≤ 8) : (txtS l).length ≤ 800 := by
  have := prTxt_le h.all
  rw [txtS_pr] at this
  omega
theorem bck_of {l : List Src} (h : LOk l) (h8 : l.length ≤ 8) : Bck l.length l ⟨(txtS l).toArray⟩ := by
  have hz := txt_size h h8
  have hd : (⟨(txtS l).toArray⟩ : ByteArray).data.toList = txtS l := List.toList_toArray
  refine ⟨rfl, fun W hW => ?_, by rw [hd]; exact spl_txt_len l, by show (txtS l).toArray.size ≤ 10000; simp; omega⟩
  have := Parse_any (⟨(txtS l).toArray⟩ : ByteArray) W hW
  unfold PsPost at this
  rw [hd, parS_txt h (by omega)] at this
  exact this
theorem cut_of {l : List Src} (h : LOk l) (h8 : l.length ≤ 8) (hne : l ≠ []) {T : ByteArray} (hT : (⟨(txtS l).toArray⟩ : ByteArray) = T) : 1 ≤ T.size ∧ ∀ W, TxV W → Calls Tryz.prog 81 #[.string (T.extract 0 (T.size - 1))] W (PsAt 0 [] ((l.length : Int) - 1) 26 W) := by
  subst hT
  have hz := txt_size h h8
  have hd : (⟨(txtS l).toArray⟩ : ByteArray).data.toList = txtS l := List.toList_toArray
  have hs : (⟨(txtS l).toArray⟩ : ByteArray).size = (txtS l).length := by show (txtS l).toArray.size = _; simp
  refine ⟨?_, fun W hW => ?_⟩
  · rw [hs]
    cases l with
    | nil => exact absurd rfl hne
    | cons s l => rw [txtS_cons]; simp; omega
  · have he : ((⟨(txtS l).toArray⟩ : ByteArray).extract 0 ((⟨(txtS l).toArray⟩ : ByteArray).size - 1)).data.toList = (txtS l).take ((txtS l).length - 1) := by rw [ext_data, List.drop_zero, hd, hs]
    have := Parse_any ((⟨(txtS l).toArray⟩ : ByteArray).extract 0 ((⟨(txtS l).toArray⟩ : ByteArray).size - 1)) W hW
    unfold PsPost at this
    rw [he, parS_cut h hne (by omega)] at this
    exact this
set_option maxHeartbeats 8000000 in
theorem lawBck_many (A : Option Addr) (n c : Nat) (l : List Src) (s : ByteArray) (w : World) (_hR : Reads w w.heap.size 4 A n (srcs l)) (hV : VarsT w) (t1 : decide (8 < (n : Int)) = true) :
    Calls Tryz.prog 16 #[.slice A n c, .string s] w fun e w' => e = .returned (.bool true) ∧ Below w.heap.size w w' := by
  go_enter Tryz.func16, Tryz.ntmps16
  go_wp2_with fail
  refine (awake_any _ hV.vr hV.x.ten).mono ?_
  rintro e w1 ⟨rfl, hb1⟩
  go_wp2_with fail
  refine (awake_any _ (hV.carry (by repeat (first | with_reducible assumption | exact Below.refl _ _ | refine below_next (by with_reducible assumption) ?_))).vr (hV.carry (by repeat (first | with_reducible assumption | exact Below.refl _ _ | refine below_next (by with_reducible assumption) ?_))).x.ten).mono ?_
  rintro e wz ⟨rfl, hbz⟩
  go_wp2_with fail
  go_ret
  exact ⟨rfl, (by repeat (first | with_reducible assumption | exact Below.refl _ _ | refine below_next (by with_reducible assumption) ?_))⟩
set_option maxHeartbeats 8000000 in
theorem lawBck_err (A : Option Addr) (n c : Nat) (l : List Src) (s : ByteArray) (w : World) (hR : Reads w w.heap.size 4 A n (srcs l)) (hV : VarsT w) (t1 : decide (8 < (n : Int)) = false) (t0 : (lstErr l != 0) = true) :
    Calls Tryz.prog 16 #[.slice A n c, .string s] w fun e w' => e = .returned (.bool true) ∧ Below w.heap.size w w' := by
  have hn8 : n ≤ 8 := by have := of_decide_eq_false t1; omega
  go_enter Tryz.func16, Tryz.ntmps16
  go_wp2_with fail
  refine (awake_any _ hV.vr hV.x.ten).mono ?_
  rintro e w1 ⟨rfl, hb1⟩
  go_wp2_with fail
  refine (rCheckSources_any A n c l _ (carry hR (by repeat (first | with_reducible assumption | exact Below.refl _ _ | refine below_next (by with_reducible assumption) ?_))) (by omega)).mono ?_
  rintro e w2 ⟨rfl, hb2⟩
  go_wp2_with fail
  refine (awake_any _ (hV.carry (by repeat (first | with_reducible assumption | exact Below.refl _ _ | refine below_next (by with_reducible assumption) ?_))).vr (hV.carry (by repeat (first | with_reducible assumption | exact Below.refl _ _ | refine below_next (by with_reducible assumption) ?_))).x.ten).mono ?_
  rintro e wz ⟨rfl, hbz⟩
  go_wp2_with fail
  go_ret
  exact ⟨rfl, (by repeat (first | with_reducible assumption | exact Below.refl _ _ | refine below_next (by with_reducible assumption) ?_))⟩
set_option maxHeartbeats 8000000 in
theorem lawBck_long (A : Option Addr) (n c : Nat) (l : List Src) (s : ByteArray) (w : World) (hR : Reads w w.heap.size 4 A n (srcs l)) (hV : VarsT w) (t1 : decide (8 < (n : Int)) = false) (h0 : lstErr l = 0) (t2 : decide (300 < (s.size : Int)) = true) :
    Calls Tryz.prog 16 #[.slice A n c, .string s] w fun e w' => e = .returned (.bool true) ∧ Below w.heap.size w w' := by
  have hn8 : n ≤ 8 := by have := of_decide_eq_false t1; omega
  have H0 := hide h0
  clear h0
  go_enter Tryz.func16, Tryz.ntmps16
  go_wp2_with fail
  refine (awake_any _ hV.vr hV.x.ten).mono ?_
  rintro e w1 ⟨rfl, hb1⟩
  go_wp2_with fail
  refine (rCheckSources_any A n c l _ (carry hR (by repeat (first | with_reducible assumption | exact Below.refl _ _ | refine below_next (by with_reducible assumption) ?_))) (by omega)).mono ?_
  rintro e w2 ⟨rfl, hb2⟩
  rw [H0.out]
  go_wp2_with fail
  refine (awake_any _ (hV.carry (by repeat (first | with_reducible assumption | exact Below.refl _ _ | refine below_next (by with_reducible assumption) ?_))).vr (hV.carry (by repeat (first | with_reducible assumption | exact Below.refl _ _ | refine below_next (by with_reducible assumption) ?_))).x.ten).mono ?_
  rintro e wz ⟨rfl, hbz⟩
  go_wp2_with fail
  go_ret
  exact ⟨rfl, (by repeat (first | with_reducible assumption | exact Below.refl _ _ | refine below_next (by with_reducible assumption) ?_))⟩
set_option maxHeartbeats 8000000 in
theorem lawBck_bad0 (A : Option Addr) (n c : Nat) (l : List Src) (s : ByteArray) (w : World) (hR : Reads w w.heap.size 4 A n (srcs l)) (hV : VarsT w) (t1 : decide (8 < (n : Int)) = false) (h0 : lstErr l = 0) (t2 : decide (300 < (s.size : Int)) = false) (p : Nat) (K : List Src) (Z Q : Int) (hX : Txt s p K Z Q) (T : ByteArray) (hD : Bck n l T) (tq : (Q == 0) = false) (tn : ((n : Int) == 0) = true) (tT : (T.toList == []) = true) :
    Calls Tryz.prog 16 #[.slice A n c, .string s] w fun e w' => e = .returned (.bool true) ∧ Below w.heap.size w w' := by
  have hn8 : n ≤ 8 := by have := of_decide_eq_false t1; omega
  have HX := hide hX
  have HD := hide hD
  have hts : T.size ≤ 10000 := hD.tm
  have H0 := hide h0
  clear hX h0 hD
  go_enter Tryz.func16, Tryz.ntmps16
  go_wp2_with fail
  refine (awake_any _ hV.vr hV.x.ten).mono ?_
  rintro e w1 ⟨rfl, hb1⟩
  go_wp2_with fail
  refine (rCheckSources_any A n c l _ (carry hR (by repeat (first | with_reducible assumption | exact Below.refl _ _ | refine below_next (by with_reducible assumption) ?_))) (by omega)).mono ?_
  rintro e w2 ⟨rfl, hb2⟩
  rw [H0.out]
  go_wp2_with fail
  refine (own_any A n c l _ (carry hR (by repeat (first | with_reducible assumption | exact Below.refl _ _ | refine below_next (by with_reducible assumption) ?_))) (by omega)).mono ?_
  rintro e w3 ⟨A3, c3, rfl, r3, hb3⟩
  go_wp2_with fail
  refine (Print_ok A3 n c3 l _ (lst_ok H0.out) r3 (hV.carry (by repeat (first | with_reducible assumption | exact Below.refl _ _ | refine below_next (by with_reducible assumption) ?_))).x.ten).mono ?_
  rintro e w4 ⟨rfl, hb4⟩
  rw [txtS_pr, HD.out.pr]
  go_wp2_with fail
  refine (HD.out.a _ (hV.carry (by repeat (first | with_reducible assumption | exact Below.refl _ _ | refine below_next (by with_reducible assumption) ?_))).x).mono ?_
  rintro e w5 ⟨A5, c5, rfl, r5, hb5⟩
  go_wp2_with fail
  refine (told_any A5 n c5 l _ (carry r5 (by repeat (first | with_reducible assumption | exact Below.refl _ _ | refine below_next (by with_reducible assumption) ?_))) (by omega)).mono ?_
  rintro e w6 ⟨A6, c6, rfl, r6, hb6⟩
  go_wp2_with fail
  refine (rSame_any A6 n c6 l A n c l _ r6 (carry hR (by repeat (first | with_reducible assumption | exact Below.refl _ _ | refine below_next (by with_reducible assumption) ?_))) (by omega) (by omega)).mono ?_
  rintro e w7 ⟨rfl, hb7⟩
  rw [decide_eq_true rfl]
  go_wp2_with fail
  refine (qSplit_any T 10 _ (by omega)).mono ?_
  rintro e w8 ⟨A8, c8, ps, hps, rfl, r8, hb8⟩
  have hpl : ps.length = n + 1 := by rw [← HD.out.sp, ← hps, List.length_map]
  rw [hpl]
  clear hps r8 hpl
  go_wp2_with fail
  refine (HX.out.a _ (hV.carry (by repeat (first | with_reducible assumption | exact Below.refl _ _ | refine below_next (by with_reducible assumption) ?_))).x).mono ?_
  rintro e w9 ⟨A9, c9, rfl, r9, hb9⟩
  go_wp2_with fail
  go_ret
  exact ⟨rfl, (by repeat (first | with_reducible assumption | exact Below.refl _ _ | refine below_next (by with_reducible assumption) ?_))⟩
set_option maxHeartbeats 8000000 in
theorem lawBck_bad1 (A : Option Addr) (n c : Nat) (l : List Src) (s : ByteArray) (w : World) (hR : Reads w w.heap.size 4 A n (srcs l)) (hV : VarsT w) (t1 : decide (8 < (n : Int)) = false) (h0 : lstErr l = 0) (t2 : decide (300 < (s.size : Int)) = false) (p : Nat) (K : List Src) (Z Q : Int) (hX : Txt s p K Z Q) (T : ByteArray) (hD : Bck n l T) (tq : (Q == 0) = false) (hz : 0 < n) (hs1 : 1 ≤ T.size) (hC : ∀ W, TxV W → Calls Tryz.prog 81 #[.string (T.extract 0 (T.size - 1))] W (PsAt 0 [] ((n : Int) - 1) 26 W)) :
    Calls Tryz.prog 16 #[.slice A n c, .string s] w fun e w' => e = .returned (.bool true) ∧ Below w.heap.size w w' := by
  have HC := hide hC
  have tn : ((n : Int) == 0) = false := by simp; omega
  clear hC
  have hn8 : n ≤ 8 := by have := of_decide_eq_false t1; omega
  have HX := hide hX
  have HD := hide hD
  have hts : T.size ≤ 10000 := hD.tm
  have H0 := hide h0
  clear hX h0 hD
  go_enter Tryz.func16, Tryz.ntmps16
  go_wp2_with fail
  refine (awake_any _ hV.vr hV.x.ten).mono ?_
  rintro e w1 ⟨rfl, hb1⟩
  go_wp2_with fail
  refine (rCheckSources_any A n c l _ (carry hR (by repeat (first | with_reducible assumption | exact Below.refl _ _ | refine below_next (by with_reducible assumption) ?_))) (by omega)).mono ?_
  rintro e w2 ⟨rfl, hb2⟩
  rw [H0.out]
  go_wp2_with fail
  refine (own_any A n c l _ (carry hR (by repeat (first | with_reducible assumption | exact Below.refl _ _ | refine below_next (by with_reducible assumption) ?_))) (by omega)).mono ?_
  rintro e w3 ⟨A3, c3, rfl, r3, hb3⟩
  go_wp2_with fail
  refine (Print_ok A3 n c3 l _ (lst_ok H0.out) r3 (hV.carry (by repeat (first | with_reducible assumption | exact Below.refl _ _ | refine below_next (by with_reducible assumption) ?_))).x.ten).mono ?_
  rintro e w4 ⟨rfl, hb4⟩
  rw [txtS_pr, HD.out.pr]
  go_wp2_with fail
  refine (HD.out.a _ (hV.carry (by repeat (first | with_reducible assumption | exact Below.refl _ _ | refine below_next (by with_reducible assumption) ?_))).x).mono ?_
  rintro e w5 ⟨A5, c5, rfl, r5, hb5⟩
  go_wp2_with fail
  refine (told_any A5 n c5 l _ (carry r5 (by repeat (first | with_reducible assumption | exact Below.refl _ _ | refine below_next (by with_reducible assumption) ?_))) (by omega)).mono ?_
  rintro e w6 ⟨A6, c6, rfl, r6, hb6⟩
  go_wp2_with fail
  refine (rSame_any A6 n c6 l A n c l _ r6 (carry hR (by repeat (first | with_reducible assumption | exact Below.refl _ _ | refine below_next (by with_reducible assumption) ?_))) (by omega) (by omega)).mono ?_
  rintro e w7 ⟨rfl, hb7⟩
  rw [decide_eq_true rfl]
  go_wp2_with fail
  refine (qSplit_any T 10 _ (by omega)).mono ?_
  rintro e w8 ⟨A8, c8, ps, hps, rfl, r8, hb8⟩
  have hpl : ps.length = n + 1 := by rw [← HD.out.sp, ← hps, List.length_map]
  rw [hpl]
  clear hps r8 hpl
  go_wp2_with fail
  refine (HX.out.a _ (hV.carry (by repeat (first | with_reducible assumption | exact Below.refl _ _ | refine below_next (by with_reducible assumption) ?_))).x).mono ?_
  rintro e w9 ⟨A9, c9, rfl, r9, hb9⟩
  go_wp2_with fail
  refine (HC.out _ (hV.carry (by repeat (first | with_reducible assumption | exact Below.refl _ _ | refine below_next (by with_reducible assumption) ?_))).x).mono ?_
  rintro e wb ⟨Ab, cb, rfl, rb, hbb⟩
  go_wp2_with fail
  go_ret
  exact ⟨rfl, (by repeat (first | with_reducible assumption | exact Below.refl _ _ | refine below_next (by with_reducible assumption) ?_))⟩
set_option maxHeartbeats 8000000 in
theorem lawBck_good0 (A : Option Addr) (n c : Nat) (l : List Src) (s : ByteArray) (w : World) (hR : Reads w w.heap.size 4 A n (srcs l)) (hV : VarsT w) (t1 : decide (8 < (n : Int)) = false) (h0 : lstErr l = 0) (t2 : decide (300 < (s.size : Int)) = false) (p : Nat) (K : List Src) (Z Q : Int) (hX : Txt s p K Z Q) (T : ByteArray) (hD : Bck n l T) (hq : Q = 0) (hP1 : lstErr K = 0) (hP2 : (⟨(txtS K).toArray⟩ : ByteArray) = s) (tn : ((n : Int) == 0) = true) (tT : (T.toList == []) = true) :
    Calls Tryz.prog 16 #[.slice A n c, .string s] w fun e w' => e = .returned (.bool true) ∧ Below w.heap.size w w' := by
  subst hq
  have HP1 := hide hP1
  have HP2 := hide hP2
  clear hP1 hP2
  have hn8 : n ≤ 8 := by have := of_decide_eq_false t1; omega
  have HX := hide hX
  have HD := hide hD
  have hts : T.size ≤ 10000 := hD.tm
  have H0 := hide h0
  clear hX h0 hD
  go_enter Tryz.func16, Tryz.ntmps16
  go_wp2_with fail
  refine (awake_any _ hV.vr hV.x.ten).mono ?_
  rintro e w1 ⟨rfl, hb1⟩
  go_wp2_with fail
  refine (rCheckSources_any A n c l _ (carry hR (by repeat (first | with_reducible assumption | exact Below.refl _ _ | refine below_next (by with_reducible assumption) ?_))) (by omega)).mono ?_
  rintro e w2 ⟨rfl, hb2⟩
  rw [H0.out]
  go_wp2_with fail
  refine (own_any A n c l _ (carry hR (by repeat (first | with_reducible assumption | exact Below.refl _ _ | refine below_next (by with_reducible assumption) ?_))) (by omega)).mono ?_
  rintro e w3 ⟨A3, c3, rfl, r3, hb3⟩
  go_wp2_with fail
  refine (Print_ok A3 n c3 l _ (lst_ok H0.out) r3 (hV.carry (by repeat (first | with_reducible assumption | exact Below.refl _ _ | refine below_next (by with_reducible assumption) ?_))).x.ten).mono ?_
  rintro e w4 ⟨rfl, hb4⟩
  rw [txtS_pr, HD.out.pr]
  go_wp2_with fail
  refine (HD.out.a _ (hV.carry (by repeat (first | with_reducible assumption | exact Below.refl _ _ | refine below_next (by with_reducible assumption) ?_))).x).mono ?_
  rintro e w5 ⟨A5, c5, rfl, r5, hb5⟩
  go_wp2_with fail
  refine (told_any A5 n c5 l _ (carry r5 (by repeat (first | with_reducible assumption | exact Below.refl _ _ | refine below_next (by with_reducible assumption) ?_))) (by omega)).mono ?_
  rintro e w6 ⟨A6, c6, rfl, r6, hb6⟩
  go_wp2_with fail
  refine (rSame_any A6 n c6 l A n c l _ r6 (carry hR (by repeat (first | with_reducible assumption | exact Below.refl _ _ | refine below_next (by with_reducible assumption) ?_))) (by omega) (by omega)).mono ?_
  rintro e w7 ⟨rfl, hb7⟩
  rw [decide_eq_true rfl]
  go_wp2_with fail
  refine (qSplit_any T 10 _ (by omega)).mono ?_
  rintro e w8 ⟨A8, c8, ps, hps, rfl, r8, hb8⟩
  have hpl : ps.length = n + 1 := by rw [← HD.out.sp, ← hps, List.length_map]
  rw [hpl]
  clear hps r8 hpl
  go_wp2_with fail
  refine (HX.out.a _ (hV.carry (by repeat (first | with_reducible assumption | exact Below.refl _ _ | refine below_next (by with_reducible assumption) ?_))).x).mono ?_
  rintro e w9 ⟨A9, c9, rfl, r9, hb9⟩
  go_wp2_with fail
  refine (Print_ok A9 p c9 K _ (lst_ok HP1.out) r9 (hV.carry (by repeat (first | with_reducible assumption | exact Below.refl _ _ | refine below_next (by with_reducible assumption) ?_))).x.ten).mono ?_
  rintro e wa ⟨rfl, hba⟩
  rw [txtS_pr, HP2.out]
  go_wp2_with fail
  go_ret
  exact ⟨rfl, (by repeat (first | with_reducible assumption | exact Below.refl _ _ | refine below_next (by with_reducible assumption) ?_))⟩
set_option maxHeartbeats 8000000 in
theorem lawBck_good1 (A : Option Addr) (n c : Nat) (l : List Src) (s : ByteArray) (w : World) (hR : Reads w w.heap.size 4 A n (srcs l)) (hV : VarsT w) (t1 : decide (8 < (n : Int)) = false) (h0 : lstErr l = 0) (t2 : decide (300 < (s.size : Int)) = false) (p : Nat) (K : List Src) (Z Q : Int) (hX : Txt s p K Z Q) (T : ByteArray) (hD : Bck n l T) (hq : Q = 0) (hP1 : lstErr K = 0) (hP2 : (⟨(txtS K).toArray⟩ : ByteArray) = s) (hz : 0 < n) (hs1 : 1 ≤ T.size) (hC : ∀ W, TxV W → Calls Tryz.prog 81 #[.string (T.extract 0 (T.size - 1))] W (PsAt 0 [] ((n : Int) - 1) 26 W)) :
    Calls Tryz.prog 16 #[.slice A n c, .string s] w fun e w' => e = .returned (.bool true) ∧ Below w.heap.size w w' := by
  have HC := hide hC
  have HP1 := hide hP1
  have HP2 := hide hP2
  have tn : ((n : Int) == 0) = false := by simp; omega
  subst hq
  clear hC hP1 hP2
  have hn8 : n ≤ 8 := by have := of_decide_eq_false t1; omega
  have HX := hide hX
  have HD := hide hD
  have hts : T.size ≤ 10000 := hD.tm
  have H0 := hide h0
  clear hX h0 hD
  go_enter Tryz.func16, Tryz.ntmps16
  go_wp2_with fail
  refine (awake_any _ hV.vr hV.x.ten).mono ?_
  rintro e w1 ⟨rfl, hb1⟩
  go_wp2_with fail
  refine (rCheckSources_any A n c l _ (carry hR (by repeat (first | with_reducible assumption | exact Below.refl _ _ | refine below_next (by with_reducible assumption) ?_))) (by omega)).mono ?_
  rintro e w2 ⟨rfl, hb2⟩
  rw [H0.out]
  go_wp2_with fail
  refine (own_any A n c l _ (carry hR (by repeat (first | with_reducible assumption | exact Below.refl _ _ | refine below_next (by with_reducible assumption) ?_))) (by omega)).mono ?_
  rintro e w3 ⟨A3, c3, rfl, r3, hb3⟩
  go_wp2_with fail
  refine (Print_ok A3 n c3 l _ (lst_ok H0.out) r3 (hV.carry (by repeat (first | with_reducible assumption | exact Below.refl _ _ | refine below_next (by with_reducible assumption) ?_))).x.ten).mono ?_
  rintro e w4 ⟨rfl, hb4⟩
  rw [txtS_pr, HD.out.pr]
  go_wp2_with fail
  refine (HD.out.a _ (hV.carry (by repeat (first | with_reducible assumption | exact Below.refl _ _ | refine below_next (by with_reducible assumption) ?_))).x).mono ?_
  rintro e w5 ⟨A5, c5, rfl, r5, hb5⟩
  go_wp2_with fail
  refine (told_any A5 n c5 l _ (carry r5 (by repeat (first | with_reducible assumption | exact Below.refl _ _ | refine below_next (by with_reducible assumption) ?_))) (by omega)).mono ?_
  rintro e w6 ⟨A6, c6, rfl, r6, hb6⟩
  go_wp2_with fail
  refine (rSame_any A6 n c6 l A n c l _ r6 (carry hR (by repeat (first | with_reducible assumption | exact Below.refl _ _ | refine below_next (by with_reducible assumption) ?_))) (by omega) (by omega)).mono ?_
  rintro e w7 ⟨rfl, hb7⟩
  rw [decide_eq_true rfl]
  go_wp2_with fail
  refine (qSplit_any T 10 _ (by omega)).mono ?_
  rintro e w8 ⟨A8, c8, ps, hps, rfl, r8, hb8⟩
  have hpl : ps.length = n + 1 := by rw [← HD.out.sp, ← hps, List.length_map]
  rw [hpl]
  clear hps r8 hpl
  go_wp2_with fail
  refine (HX.out.a _ (hV.carry (by repeat (first | with_reducible assumption | exact Below.refl _ _ | refine below_next (by with_reducible assumption) ?_))).x).mono ?_
  rintro e w9 ⟨A9, c9, rfl, r9, hb9⟩
  go_wp2_with fail
  refine (Print_ok A9 p c9 K _ (lst_ok HP1.out) r9 (hV.carry (by repeat (first | with_reducible assumption | exact Below.refl _ _ | refine below_next (by with_reducible assumption) ?_))).x.ten).mono ?_
  rintro e wa ⟨rfl, hba⟩
  rw [txtS_pr, HP2.out]
  go_wp2_with fail
  refine (HC.out _ (hV.carry (by repeat (first | with_reducible assumption | exact Below.refl _ _ | refine below_next (by with_reducible assumption) ?_))).x).mono ?_
  rintro e wb ⟨Ab, cb, rfl, rb, hbb⟩
  go_wp2_with fail
  go_ret
  exact ⟨rfl, (by repeat (first | with_reducible assumption | exact Below.refl _ _ | refine below_next (by with_reducible assumption) ?_))⟩
set_option maxHeartbeats 8000000 in
theorem lawBck_any (A : Option Addr) (n c : Nat) (l : List Src) (s : ByteArray) (w : World) (hR : Reads w w.heap.size 4 A n (srcs l)) (hV : VarsT w)  :
    Calls Tryz.prog 16 #[.slice A n c, .string s] w fun e w' => e = .returned (.bool true) ∧ Below w.heap.size w w' := by
  cases t1 : decide (8 < (n : Int)) with
  | true => exact lawBck_many A n c l s w hR hV t1
  | false =>
    have hn8 : n ≤ 8 := by have := of_decide_eq_false t1; omega
    by_cases h0 : lstErr l = 0
    · cases t2 : decide (300 < (s.size : Int)) with
      | true => exact lawBck_long A n c l s w hR hV t1 h0 t2
      | false =>
        have hl := srcs_reads_len hR
        have hD := bck_of (lst_ok h0) (by omega)
        rw [hl] at hD
        have hX := txt_of s
        have hP : (parS s.data.toList).2.2 = 0 → lstErr (parS s.data.toList).1 = 0 ∧ (⟨(txtS (parS s.data.toList).1).toArray⟩ : ByteArray) = s := fun h => ⟨(parS_back h).1, bytes_ext (by rw [(parS_back h).2])⟩
        by_cases hz : n = 0
        · have hl0 : l = [] := List.eq_nil_of_length_eq_zero (by omega)
          have tT : ((⟨(txtS l).toArray⟩ : ByteArray).toList == []) = true := by rw [list_none, hl0]; rfl
          have tn : ((n : Int) == 0) = true := by rw [hz]; rfl
          by_cases hq : (parS s.data.toList).2.2 = 0
          · exact lawBck_good0 A n c l s w hR hV t1 h0 t2 _ _ _ _ hX _ hD hq (hP hq).1 (hP hq).2 tn tT
          · exact lawBck_bad0 A n c l s w hR hV t1 h0 t2 _ _ _ _ hX _ hD (by simpa using hq) tn tT
        · obtain ⟨hs1, hC⟩ := cut_of (lst_ok h0) (by omega) (by intro e; rw [e] at hl; exact hz hl.symm) (rfl : (⟨(txtS l).toArray⟩ : ByteArray) = _)
          rw [hl] at hC
          by_cases hq : (parS s.data.toList).2.2 = 0
          · exact lawBck_good1 A n c l s w hR hV t1 h0 t2 _ _ _ _ hX _ hD hq (hP hq).1 (hP hq).2 (by omega) hs1 hC
          · exact lawBck_bad1 A n c l s w hR hV t1 h0 t2 _ _ _ _ hX _ hD (by simpa using hq) (by omega) hs1 hC
    · exact lawBck_err A n c l s w hR hV t1 (by simpa using h0)
end Go.Proofs.YtcihiglpahhboaaGreatDoor
