/- The law NetworkTexts. -/
import Derived.Test.YtnndaipnfniciaaGreatDoorNAwk
import Derived.Test.YtnndaipnfniciaaGreatDoorNRLad
import Derived.Test.YtnndaipnfniciaaGreatDoorNVarT
import Derived.Test.YtnndaipnfniciaaGreatDoorNParse
import Derived.Test.YtnndaipnfniciaaGreatDoorNRParse
import Derived.Test.YtnndaipnfniciaaGreatDoorNRTxt
namespace Go.Proofs.YtnndaipnfniciaaGreatDoor
open Go.RowKit Go.Shelf
set_option maxRecDepth 100000
/-- What a parse says, by name. -/
def PrAt (m : Nat) (L : List El) (E : Int) (w : World) (e : Ending) (w' : World) : Prop :=
  ∃ A c, e = .returned (.tuple #[.slice A m c, .int .i64 E]) ∧ Reads w' w'.heap.size 3 A m (els L) ∧ Below w.heap.size w w'
theorem prs_len (s : List UInt8) : (prs s).1.length ≤ 5 := by
  unfold prs
  split
  · simp
  · split
    · simp
    · split
      · simp
      · split
        · rename_i h
          exact (lad_ok h).len
        · simp
/-- The text of a ladder, nothing where it is wrong. -/
def prT (l : List El) : ByteArray := if ladErr l = 0 then ladTxt l else ⟨#[]⟩
theorem Print_any (A : Option Addr) (n c : Nat) (l : List El) (w : World) (hT : Tens w) (h : Reads w w.heap.size 3 A n (els l)) (hn : n ≤ 1000000) :
    Calls Tryz.prog 76 #[.slice A n c] w fun e w' => e = .returned (.tuple #[.string (prT l), .int .i64 (ladErr l)]) ∧ Below w.heap.size w w' := by
  by_cases h0 : ladErr l = 0
  · have := Print_ok A n c l w hT h h0
    unfold prT
    rw [if_pos h0, h0]
    exact this
  · have := Print_bad A n c l w h h0 hn
    unfold prT
    rw [if_neg h0]
    exact this
theorem shortT {l : List El} {w : World} {A : Option Addr} {n : Nat} (hR : Reads w w.heap.size 3 A n (els l)) (h : shortB l = true) : n ≤ 6 := by
  unfold shortB at h
  rw [Bool.and_eq_true, decide_eq_true_eq] at h
  have := els_reads_len hR
  omega
set_option maxHeartbeats 8000000 in
theorem lawTxt_long1 (A : Option Addr) (n c : Nat) (l : List El) (s : ByteArray) (w : World) (hV : VarsT w) (hR : Reads w w.heap.size 3 A n (els l)) (h1 : shortB l = false) :
    Calls Tryz.prog 12 #[.slice A n c, .string s] w fun e w' => e = .returned (.bool true) ∧ Below w.heap.size w w' := by
  have H1 := hide h1
  clear h1
  go_enter Tryz.func12, Tryz.ntmps12
  go_wp2_with fail
  refine (rShort_any A n c l _ hR).mono ?_
  rintro e w1 ⟨rfl, hb1⟩
  rw [H1.out]
  go_wp2_with fail
  refine (awake_any _ (hV.n.con.carry (by repeat (first | with_reducible assumption | exact Below.refl _ _ | refine below_next (by with_reducible assumption) ?_))) (hV.n.tur.carry (by repeat (first | with_reducible assumption | exact Below.refl _ _ | refine below_next (by with_reducible assumption) ?_))) (hV.n.ten.carry (by repeat (first | with_reducible assumption | exact Below.refl _ _ | refine below_next (by with_reducible assumption) ?_)))).mono ?_
  rintro e wz ⟨rfl, hbz⟩
  go_wp2_with fail
  go_ret
  exact ⟨rfl, (by repeat (first | with_reducible assumption | exact Below.refl _ _ | refine below_next (by with_reducible assumption) ?_))⟩
set_option maxHeartbeats 8000000 in
theorem lawTxt_long2 (A : Option Addr) (n c : Nat) (l : List El) (s : ByteArray) (w : World) (hV : VarsT w) (hR : Reads w w.heap.size 3 A n (els l)) (h1 : shortB l = true) (t1 : decide (200 < (s.size : Int)) = true) (t2 : ((s.size : Int) != 4097) = true) :
    Calls Tryz.prog 12 #[.slice A n c, .string s] w fun e w' => e = .returned (.bool true) ∧ Below w.heap.size w w' := by
  have H1 := hide h1
  clear h1
  go_enter Tryz.func12, Tryz.ntmps12
  go_wp2_with fail
  refine (rShort_any A n c l _ hR).mono ?_
  rintro e w1 ⟨rfl, hb1⟩
  rw [H1.out]
  go_wp2_with fail
  refine (awake_any _ (hV.n.con.carry (by repeat (first | with_reducible assumption | exact Below.refl _ _ | refine below_next (by with_reducible assumption) ?_))) (hV.n.tur.carry (by repeat (first | with_reducible assumption | exact Below.refl _ _ | refine below_next (by with_reducible assumption) ?_))) (hV.n.ten.carry (by repeat (first | with_reducible assumption | exact Below.refl _ _ | refine below_next (by with_reducible assumption) ?_)))).mono ?_
  rintro e wz ⟨rfl, hbz⟩
  go_wp2_with fail
  go_ret
  exact ⟨rfl, (by repeat (first | with_reducible assumption | exact Below.refl _ _ | refine below_next (by with_reducible assumption) ?_))⟩
/-- What the callees of the law say, by name. -/
structure Txt (s : ByteArray) (m : Nat) (L : List El) (E : Int) : Prop where
  a : ∀ W, TxV W → Calls Tryz.prog 77 #[.string s] W (PrAt m L E W)
  b : ∀ W, Calls Tryz.prog 79 #[.string s] W (PrAt m L E W)
  m5 : m ≤ 5
theorem txt_of (s : ByteArray) : Txt s (prs s.data.toList).1.length (prs s.data.toList).1 (prs s.data.toList).2 := ⟨fun W h => Parse_any s W h, fun W => rParse_any s W, prs_len _⟩
set_option maxHeartbeats 8000000 in
theorem lawTxt_go1 (A : Option Addr) (n c : Nat) (l : List El) (s : ByteArray) (w : World) (hV : VarsT w) (hR : Reads w w.heap.size 3 A n (els l)) (h1 : shortB l = true) (t1 : decide (200 < (s.size : Int)) = false) (m : Nat) (L : List El) (E : Int) (hX : Txt s m L E) :
    Calls Tryz.prog 12 #[.slice A n c, .string s] w fun e w' => e = .returned (.bool true) ∧ Below w.heap.size w w' := by
  by_cases he : ladErr l = 0
  · have HP := hide (show prT l = ladTxt l by unfold prT; rw [if_pos he])
    have H0 := hide he
    clear he
    have hn6 := shortT hR h1
    have H1 := hide h1
    have HX := hide hX
    have hm5 := hX.m5
    clear h1 hX
    go_enter Tryz.func12, Tryz.ntmps12
    go_wp2_with fail
    refine (rShort_any A n c l _ hR).mono ?_
    rintro e w1 ⟨rfl, hb1⟩
    rw [H1.out]
    go_wp2_with fail
    refine (ladder_lad A n c l _ (carry hR (by repeat (first | with_reducible assumption | exact Below.refl _ _ | refine below_next (by with_reducible assumption) ?_))) (by omega)).mono ?_
    rintro e w2 ⟨A2, c2, rfl, r2, hb2⟩
    go_wp2_with fail
    refine (Print_any A2 n c2 l _ (hV.x.ten.carry (by repeat (first | with_reducible assumption | exact Below.refl _ _ | refine below_next (by with_reducible assumption) ?_))) r2 (by omega)).mono ?_
    rintro e w3 ⟨rfl, hb3⟩
    go_wp2_with fail
    refine (HX.out.a _ (hV.x.carry (by repeat (first | with_reducible assumption | exact Below.refl _ _ | refine below_next (by with_reducible assumption) ?_)))).mono ?_
    rintro e w4 ⟨A4, c4, rfl, r4, hb4⟩
    go_wp2_with fail
    refine (rCheckLadder_any A n c l _ (carry hR (by repeat (first | with_reducible assumption | exact Below.refl _ _ | refine below_next (by with_reducible assumption) ?_))) (by omega)).mono ?_
    rintro e w5 ⟨rfl, hb5⟩
    rw [HP.out, H0.out]
    go_wp2_with fail
    refine (rPrint_ok A n c l _ (carry hR (by repeat (first | with_reducible assumption | exact Below.refl _ _ | refine below_next (by with_reducible assumption) ?_))) H0.out).mono ?_
    rintro e w6 ⟨rfl, hb6⟩
    go_wp2_with fail
    refine (HX.out.b _).mono ?_
    rintro e w7 ⟨A7, c7, rfl, r7, hb7⟩
    go_wp2_with fail
    refine (told_lad A4 m c4 L _ (carry r4 (by repeat (first | with_reducible assumption | exact Below.refl _ _ | refine below_next (by with_reducible assumption) ?_))) (by omega)).mono ?_
    rintro e w8 ⟨A8, c8, rfl, r8, hb8⟩
    go_wp2_with fail
    refine (sameLadder_true A8 m c8 L A7 c7 _ r8 (carry r7 hb8) (by omega)).mono ?_
    rintro e w9 ⟨rfl, hb9⟩
    go_wp2_with fail
    refine (awake_any _ (hV.n.con.carry (by repeat (first | with_reducible assumption | exact Below.refl _ _ | refine below_next (by with_reducible assumption) ?_))) (hV.n.tur.carry (by repeat (first | with_reducible assumption | exact Below.refl _ _ | refine below_next (by with_reducible assumption) ?_))) (hV.n.ten.carry (by repeat (first | with_reducible assumption | exact Below.refl _ _ | refine below_next (by with_reducible assumption) ?_)))).mono ?_
    rintro e wz ⟨rfl, hbz⟩
    go_wp2_with fail
    go_ret
    exact ⟨rfl, (by repeat (first | with_reducible assumption | exact Below.refl _ _ | refine below_next (by with_reducible assumption) ?_))⟩
  · have HP := hide (show prT l = ⟨#[]⟩ by unfold prT; rw [if_neg he])
    have t0 : (ladErr l == 0) = false := by simpa using he
    clear he
    have hn6 := shortT hR h1
    have H1 := hide h1
    have HX := hide hX
    have hm5 := hX.m5
    clear h1 hX
    go_enter Tryz.func12, Tryz.ntmps12
    go_wp2_with fail
    refine (rShort_any A n c l _ hR).mono ?_
    rintro e w1 ⟨rfl, hb1⟩
    rw [H1.out]
    go_wp2_with fail
    refine (ladder_lad A n c l _ (carry hR (by repeat (first | with_reducible assumption | exact Below.refl _ _ | refine below_next (by with_reducible assumption) ?_))) (by omega)).mono ?_
    rintro e w2 ⟨A2, c2, rfl, r2, hb2⟩
    go_wp2_with fail
    refine (Print_any A2 n c2 l _ (hV.x.ten.carry (by repeat (first | with_reducible assumption | exact Below.refl _ _ | refine below_next (by with_reducible assumption) ?_))) r2 (by omega)).mono ?_
    rintro e w3 ⟨rfl, hb3⟩
    go_wp2_with fail
    refine (HX.out.a _ (hV.x.carry (by repeat (first | with_reducible assumption | exact Below.refl _ _ | refine below_next (by with_reducible assumption) ?_)))).mono ?_
    rintro e w4 ⟨A4, c4, rfl, r4, hb4⟩
    go_wp2_with fail
    refine (rCheckLadder_any A n c l _ (carry hR (by repeat (first | with_reducible assumption | exact Below.refl _ _ | refine below_next (by with_reducible assumption) ?_))) (by omega)).mono ?_
    rintro e w5 ⟨rfl, hb5⟩
    rw [HP.out]
    go_wp2_with fail
    refine (HX.out.b _).mono ?_
    rintro e w7 ⟨A7, c7, rfl, r7, hb7⟩
    go_wp2_with fail
    refine (told_lad A4 m c4 L _ (carry r4 (by repeat (first | with_reducible assumption | exact Below.refl _ _ | refine below_next (by with_reducible assumption) ?_))) (by omega)).mono ?_
    rintro e w8 ⟨A8, c8, rfl, r8, hb8⟩
    go_wp2_with fail
    refine (sameLadder_true A8 m c8 L A7 c7 _ r8 (carry r7 hb8) (by omega)).mono ?_
    rintro e w9 ⟨rfl, hb9⟩
    go_wp2_with fail
    refine (awake_any _ (hV.n.con.carry (by repeat (first | with_reducible assumption | exact Below.refl _ _ | refine below_next (by with_reducible assumption) ?_))) (hV.n.tur.carry (by repeat (first | with_reducible assumption | exact Below.refl _ _ | refine below_next (by with_reducible assumption) ?_))) (hV.n.ten.carry (by repeat (first | with_reducible assumption | exact Below.refl _ _ | refine below_next (by with_reducible assumption) ?_)))).mono ?_
    rintro e wz ⟨rfl, hbz⟩
    go_wp2_with fail
    go_ret
    exact ⟨rfl, (by repeat (first | with_reducible assumption | exact Below.refl _ _ | refine below_next (by with_reducible assumption) ?_))⟩
set_option maxHeartbeats 8000000 in
theorem lawTxt_go2 (A : Option Addr) (n c : Nat) (l : List El) (s : ByteArray) (w : World) (hV : VarsT w) (hR : Reads w w.heap.size 3 A n (els l)) (h1 : shortB l = true) (t1 : decide (200 < (s.size : Int)) = true) (t2 : ((s.size : Int) != 4097) = false) (m : Nat) (L : List El) (E : Int) (hX : Txt s m L E) :
    Calls Tryz.prog 12 #[.slice A n c, .string s] w fun e w' => e = .returned (.bool true) ∧ Below w.heap.size w w' := by
  by_cases he : ladErr l = 0
  · have HP := hide (show prT l = ladTxt l by unfold prT; rw [if_pos he])
    have H0 := hide he
    clear he
    have hn6 := shortT hR h1
    have H1 := hide h1
    have HX := hide hX
    have hm5 := hX.m5
    clear h1 hX
    go_enter Tryz.func12, Tryz.ntmps12
    go_wp2_with fail
    refine (rShort_any A n c l _ hR).mono ?_
    rintro e w1 ⟨rfl, hb1⟩
    rw [H1.out]
    go_wp2_with fail
    refine (ladder_lad A n c l _ (carry hR (by repeat (first | with_reducible assumption | exact Below.refl _ _ | refine below_next (by with_reducible assumption) ?_))) (by omega)).mono ?_
    rintro e w2 ⟨A2, c2, rfl, r2, hb2⟩
    go_wp2_with fail
    refine (Print_any A2 n c2 l _ (hV.x.ten.carry (by repeat (first | with_reducible assumption | exact Below.refl _ _ | refine below_next (by with_reducible assumption) ?_))) r2 (by omega)).mono ?_
    rintro e w3 ⟨rfl, hb3⟩
    go_wp2_with fail
    refine (HX.out.a _ (hV.x.carry (by repeat (first | with_reducible assumption | exact Below.refl _ _ | refine below_next (by with_reducible assumption) ?_)))).mono ?_
    rintro e w4 ⟨A4, c4, rfl, r4, hb4⟩
    go_wp2_with fail
    refine (rCheckLadder_any A n c l _ (carry hR (by repeat (first | with_reducible assumption | exact Below.refl _ _ | refine below_next (by with_reducible assumption) ?_))) (by omega)).mono ?_
    rintro e w5 ⟨rfl, hb5⟩
    rw [HP.out, H0.out]
    go_wp2_with fail
    refine (rPrint_ok A n c l _ (carry hR (by repeat (first | with_reducible assumption | exact Below.refl _ _ | refine below_next (by with_reducible assumption) ?_))) H0.out).mono ?_
    rintro e w6 ⟨rfl, hb6⟩
    go_wp2_with fail
    refine (HX.out.b _).mono ?_
    rintro e w7 ⟨A7, c7, rfl, r7, hb7⟩
    go_wp2_with fail
    refine (told_lad A4 m c4 L _ (carry r4 (by repeat (first | with_reducible assumption | exact Below.refl _ _ | refine below_next (by with_reducible assumption) ?_))) (by omega)).mono ?_
    rintro e w8 ⟨A8, c8, rfl, r8, hb8⟩
    go_wp2_with fail
    refine (sameLadder_true A8 m c8 L A7 c7 _ r8 (carry r7 hb8) (by omega)).mono ?_
    rintro e w9 ⟨rfl, hb9⟩
    go_wp2_with fail
    refine (awake_any _ (hV.n.con.carry (by repeat (first | with_reducible assumption | exact Below.refl _ _ | refine below_next (by with_reducible assumption) ?_))) (hV.n.tur.carry (by repeat (first | with_reducible assumption | exact Below.refl _ _ | refine below_next (by with_reducible assumption) ?_))) (hV.n.ten.carry (by repeat (first | with_reducible assumption | exact Below.refl _ _ | refine below_next (by with_reducible assumption) ?_)))).mono ?_
    rintro e wz ⟨rfl, hbz⟩
    go_wp2_with fail
    go_ret
    exact ⟨rfl, (by repeat (first | with_reducible assumption | exact Below.refl _ _ | refine below_next (by with_reducible assumption) ?_))⟩
  · have HP := hide (show prT l = ⟨#[]⟩ by unfold prT; rw [if_neg he])
    have t0 : (ladErr l == 0) = false := by simpa using he
    clear he
    have hn6 := shortT hR h1
    have H1 := hide h1
    have HX := hide hX
    have hm5 := hX.m5
    clear h1 hX
    go_enter Tryz.func12, Tryz.ntmps12
    go_wp2_with fail
    refine (rShort_any A n c l _ hR).mono ?_
    rintro e w1 ⟨rfl, hb1⟩
    rw [H1.out]
    go_wp2_with fail
    refine (ladder_lad A n c l _ (carry hR (by repeat (first | with_reducible assumption | exact Below.refl _ _ | refine below_next (by with_reducible assumption) ?_))) (by omega)).mono ?_
    rintro e w2 ⟨A2, c2, rfl, r2, hb2⟩
    go_wp2_with fail
    refine (Print_any A2 n c2 l _ (hV.x.ten.carry (by repeat (first | with_reducible assumption | exact Below.refl _ _ | refine below_next (by with_reducible assumption) ?_))) r2 (by omega)).mono ?_
    rintro e w3 ⟨rfl, hb3⟩
    go_wp2_with fail
    refine (HX.out.a _ (hV.x.carry (by repeat (first | with_reducible assumption | exact Below.refl _ _ | refine below_next (by with_reducible assumption) ?_)))).mono ?_
    rintro e w4 ⟨A4, c4, rfl, r4, hb4⟩
    go_wp2_with fail
    refine (rCheckLadder_any A n c l _ (carry hR (by repeat (first | with_reducible assumption | exact Below.refl _ _ | refine below_next (by with_reducible assumption) ?_))) (by omega)).mono ?_
    rintro e w5 ⟨rfl, hb5⟩
    rw [HP.out]
    go_wp2_with fail
    refine (HX.out.b _).mono ?_
    rintro e w7 ⟨A7, c7, rfl, r7, hb7⟩
    go_wp2_with fail
    refine (told_lad A4 m c4 L _ (carry r4 (by repeat (first | with_reducible assumption | exact Below.refl _ _ | refine below_next (by with_reducible assumption) ?_))) (by omega)).mono ?_
    rintro e w8 ⟨A8, c8, rfl, r8, hb8⟩
    go_wp2_with fail
    refine (sameLadder_true A8 m c8 L A7 c7 _ r8 (carry r7 hb8) (by omega)).mono ?_
    rintro e w9 ⟨rfl, hb9⟩
    go_wp2_with fail
    refine (awake_any _ (hV.n.con.carry (by repeat (first | with_reducible assumption | exact Below.refl _ _ | refine below_next (by with_reducible assumption) ?_))) (hV.n.tur.carry (by repeat (first | with_reducible assumption | exact Below.refl _ _ | refine below_next (by with_reducible assumption) ?_))) (hV.n.ten.carry (by repeat (first | with_reducible assumption | exact Below.refl _ _ | refine below_next (by with_reducible assumption) ?_)))).mono ?_
    rintro e wz ⟨rfl, hbz⟩
    go_wp2_with fail
    go_ret
    exact ⟨rfl, (by repeat (first | with_reducible assumption | exact Below.refl _ _ | refine below_next (by with_reducible assumption) ?_))⟩
set_option maxHeartbeats 8000000 in
theorem lawTxt_any (A : Option Addr) (n c : Nat) (l : List El) (s : ByteArray) (w : World) (hV : VarsT w) (hR : Reads w w.heap.size 3 A n (els l))  :
    Calls Tryz.prog 12 #[.slice A n c, .string s] w fun e w' => e = .returned (.bool true) ∧ Below w.heap.size w w' := by
  cases h1 : shortB l with
  | false => exact lawTxt_long1 A n c l s w hV hR h1
  | true =>
    cases t1 : decide (200 < (s.size : Int)) with
    | false => exact lawTxt_go1 A n c l s w hV hR h1 t1 _ _ _ (txt_of s)
    | true =>
      cases t2 : ((s.size : Int) != 4097) with
      | true => exact lawTxt_long2 A n c l s w hV hR h1 t1 t2
      | false => exact lawTxt_go2 A n c l s w hV hR h1 t1 t2 _ _ _ (txt_of s)
end Go.Proofs.YtnndaipnfniciaaGreatDoor
