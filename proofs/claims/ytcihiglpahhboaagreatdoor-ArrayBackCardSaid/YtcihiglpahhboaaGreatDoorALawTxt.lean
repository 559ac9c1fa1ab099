/- The law ArrayTexts: for all arguments it returns true. -/
import Derived.Test.YtcihiglpahhboaaGreatDoorAAwk
import Derived.Test.YtcihiglpahhboaaGreatDoorBaseM
import Derived.Test.YtcihiglpahhboaaGreatDoorAPar
import Derived.Test.YtcihiglpahhboaaGreatDoorARPar
import Derived.Test.YtcihiglpahhboaaGreatDoorARTxt
namespace Go.Proofs.YtcihiglpahhboaaGreatDoor
open Go.RowKit Go.Shelf
set_option maxRecDepth 100000
/-- What the laws on texts ask of the variables. -/
structure VarsT (w : World) : Prop where
  vr : Vr w
  x : TxV w
theorem VarsT.carry {w w' : World} (h : VarsT w) (hb : Below w.heap.size w w') : VarsT w' := ⟨h.vr.carry hb, h.x.carry hb⟩
theorem pgo_len : ∀ {ls : List (List UInt8)} {acc : List Src}, (pgo acc ls).1.length ≤ 16 := by
  intro ls
  induction ls with
  | nil => intro acc; simp [pgo]
  | cons w r ih =>
    intro acc
    cases r with
    | nil =>
      by_cases hw : w = []
      · subst hw
        rw [pgo_end]
        split
        · exact (lst_ok ‹_›).len
        · simp
      · rw [pgo_last acc hw]; simp
    | cons v r =>
      cases hp : pline w with
      | none => rw [pgo_bad acc (by simp) hp]; simp
      | some s => rw [pgo_good acc (by simp) hp]; exact ih
theorem parS_len (s : List UInt8) : (parS s).1.length ≤ 16 := by
  unfold parS
  split
  · simp
  · exact pgo_len
/-- The text of sources, nothing where they are wrong. -/
def prT (l : List Src) : ByteArray := if lstErr l = 0 then ⟨(txtS l).toArray⟩ else ⟨#[]⟩
theorem Print_any (A : Option Addr) (n c : Nat) (l : List Src) (w : World) (hR : Reads w w.heap.size 4 A n (srcs l)) (hT : Tens w) (hn : n ≤ 1000000) :
    Calls Tryz.prog 80 #[.slice A n c] w fun e w' => e = .returned (.tuple #[.string (prT l), .int .i64 (lstErr l)]) ∧ Below w.heap.size w w' := by
  by_cases h0 : lstErr l = 0
  · have := Print_ok A n c l w (lst_ok h0) hR hT
    unfold prT
    rw [if_pos h0, h0]
    exact this
  · have := Print_bad A n c l w hR h0 hn
    unfold prT
    rw [if_neg h0]
    exact this
/-- What the callees of the law say, by name. -/
structure Txt (s : ByteArray) (m : Nat) (L : List Src) (K E : Int) : Prop where
  a : ∀ W, TxV W → Calls Tryz.prog 81 #[.string s] W (PsAt m L K E W)
  b : ∀ W, Calls Tryz.prog 83 #[.string s] W (PsAt m L K E W)
  m16 : m ≤ 16
theorem txt_of (s : ByteArray) : Txt s (parS s.data.toList).1.length (parS s.data.toList).1 (parS s.data.toList).2.1 (parS s.data.toList).2.2 := ⟨fun W h => Parse_any s W h, fun W => rParse_any s W, parS_len _⟩
set_option maxHeartbeats 8000000 in
theorem lawTxt_long1 (A : Option Addr) (n c : Nat) (l : List Src) (s : ByteArray) (w : World) (_hR : Reads w w.heap.size 4 A n (srcs l)) (hV : VarsT w) (h1 : shrt n 8 = false) :
    Calls Tryz.prog 15 #[.slice A n c, .string s] w fun e w' => e = .returned (.bool true) ∧ Below w.heap.size w w' := by
  have H1 := hide h1
  clear h1
  go_enter Tryz.func15, Tryz.ntmps15
  go_wp2_with fail
  refine (awake_any _ hV.vr hV.x.ten).mono ?_
  rintro e w1 ⟨rfl, hb1⟩
  go_wp2_with fail
  refine (short_any A n c 8 _).mono ?_
  rintro e W1 ⟨rfl, hW1⟩
  rw [← hW1]
  clear hW1 W1
  rw [H1.out]
  go_wp2_with fail
  refine (awake_any _ (hV.carry (by repeat (first | with_reducible assumption | exact Below.refl _ _ | refine below_next (by with_reducible assumption) ?_))).vr (hV.carry (by repeat (first | with_reducible assumption | exact Below.refl _ _ | refine below_next (by with_reducible assumption) ?_))).x.ten).mono ?_
  rintro e wz ⟨rfl, hbz⟩
  go_wp2_with fail
  go_ret
  exact ⟨rfl, (by repeat (first | with_reducible assumption | exact Below.refl _ _ | refine below_next (by with_reducible assumption) ?_))⟩
set_option maxHeartbeats 8000000 in
theorem lawTxt_long2 (A : Option Addr) (n c : Nat) (l : List Src) (s : ByteArray) (w : World) (_hR : Reads w w.heap.size 4 A n (srcs l)) (hV : VarsT w) (h1 : shrt n 8 = true) (t1 : decide (300 < (s.size : Int)) = true) (t2 : ((s.size : Int) != 4097) = true) :
    Calls Tryz.prog 15 #[.slice A n c, .string s] w fun e w' => e = .returned (.bool true) ∧ Below w.heap.size w w' := by
  have H1 := hide h1
  clear h1
  go_enter Tryz.func15, Tryz.ntmps15
  go_wp2_with fail
  refine (awake_any _ hV.vr hV.x.ten).mono ?_
  rintro e w1 ⟨rfl, hb1⟩
  go_wp2_with fail
  refine (short_any A n c 8 _).mono ?_
  rintro e W1 ⟨rfl, hW1⟩
  rw [← hW1]
  clear hW1 W1
  rw [H1.out]
  go_wp2_with fail
  refine (awake_any _ (hV.carry (by repeat (first | with_reducible assumption | exact Below.refl _ _ | refine below_next (by with_reducible assumption) ?_))).vr (hV.carry (by repeat (first | with_reducible assumption | exact Below.refl _ _ | refine below_next (by with_reducible assumption) ?_))).x.ten).mono ?_
  rintro e wz ⟨rfl, hbz⟩
  go_wp2_with fail
  go_ret
  exact ⟨rfl, (by repeat (first | with_reducible assumption | exact Below.refl _ _ | refine below_next (by with_reducible assumption) ?_))⟩
set_option maxHeartbeats 8000000 in
theorem lawTxt_go1 (A : Option Addr) (n c : Nat) (l : List Src) (s : ByteArray) (w : World) (hR : Reads w w.heap.size 4 A n (srcs l)) (hV : VarsT w) (h1 : shrt n 8 = true) (t1 : decide (300 < (s.size : Int)) = false) (m : Nat) (L : List Src) (K E : Int) (hX : Txt s m L K E) :
    Calls Tryz.prog 15 #[.slice A n c, .string s] w fun e w' => e = .returned (.bool true) ∧ Below w.heap.size w w' := by
  by_cases he : lstErr l = 0
  · have HP := hide (show prT l = ⟨(txtS l).toArray⟩ by unfold prT; rw [if_pos he])
    have H0 := hide he
    clear he
    have hn17 : n ≤ 17 := by unfold shrt at h1; simp at h1; omega
    have H1 := hide h1
    have HX := hide hX
    have hm16 := hX.m16
    clear h1 hX
    go_enter Tryz.func15, Tryz.ntmps15
    go_wp2_with fail
    refine (awake_any _ hV.vr hV.x.ten).mono ?_
    rintro e w1 ⟨rfl, hb1⟩
    go_wp2_with fail
    refine (short_any A n c 8 _).mono ?_
    rintro e W1 ⟨rfl, hW1⟩
    rw [← hW1]
    clear hW1 W1
    rw [H1.out]
    go_wp2_with fail
    refine (own_any A n c l _ (carry hR (by repeat (first | with_reducible assumption | exact Below.refl _ _ | refine below_next (by with_reducible assumption) ?_))) (by omega)).mono ?_
    rintro e w2 ⟨A2, c2, rfl, r2, hb2⟩
    go_wp2_with fail
    refine (Print_any A2 n c2 l _ r2 (hV.carry (by repeat (first | with_reducible assumption | exact Below.refl _ _ | refine below_next (by with_reducible assumption) ?_))).x.ten (by omega)).mono ?_
    rintro e w3 ⟨rfl, hb3⟩
    go_wp2_with fail
    refine (HX.out.a _ (hV.carry (by repeat (first | with_reducible assumption | exact Below.refl _ _ | refine below_next (by with_reducible assumption) ?_))).x).mono ?_
    rintro e w4 ⟨A4, c4, rfl, r4, hb4⟩
    go_wp2_with fail
    refine (rCheckSources_any A n c l _ (carry hR (by repeat (first | with_reducible assumption | exact Below.refl _ _ | refine below_next (by with_reducible assumption) ?_))) (by omega)).mono ?_
    rintro e w5 ⟨rfl, hb5⟩
    rw [HP.out, H0.out]
    go_wp2_with fail
    refine (rPrint_ok A n c l _ (carry hR (by repeat (first | with_reducible assumption | exact Below.refl _ _ | refine below_next (by with_reducible assumption) ?_))) H0.out).mono ?_
    rintro e w6 ⟨rfl, hb6⟩
    go_wp2_with fail
    refine (HX.out.b _).mono ?_
    rintro e w7 ⟨A7, c7, rfl, r7, hb7⟩
    go_wp2_with fail
    refine (told_any A4 m c4 L _ (carry r4 (by repeat (first | with_reducible assumption | exact Below.refl _ _ | refine below_next (by with_reducible assumption) ?_))) (by omega)).mono ?_
    rintro e w8 ⟨A8, c8, rfl, r8, hb8⟩
    go_wp2_with fail
    refine (rSame_any A8 m c8 L A7 m c7 L _ r8 (carry r7 hb8) (by omega) (by omega)).mono ?_
    rintro e w9 ⟨rfl, hb9⟩
    rw [decide_eq_true rfl]
    go_wp2_with fail
    go_ret
    exact ⟨rfl, (by repeat (first | with_reducible assumption | exact Below.refl _ _ | refine below_next (by with_reducible assumption) ?_))⟩
  · have HP := hide (show prT l = ⟨#[]⟩ by unfold prT; rw [if_neg he])
    have t0 : (lstErr l == 0) = false := by simpa using he
    clear he
    have hn17 : n ≤ 17 := by unfold shrt at h1; simp at h1; omega
    have H1 := hide h1
    have HX := hide hX
    have hm16 := hX.m16
    clear h1 hX
    go_enter Tryz.func15, Tryz.ntmps15
    go_wp2_with fail
    refine (awake_any _ hV.vr hV.x.ten).mono ?_
    rintro e w1 ⟨rfl, hb1⟩
    go_wp2_with fail
    refine (short_any A n c 8 _).mono ?_
    rintro e W1 ⟨rfl, hW1⟩
    rw [← hW1]
    clear hW1 W1
    rw [H1.out]
    go_wp2_with fail
    refine (own_any A n c l _ (carry hR (by repeat (first | with_reducible assumption | exact Below.refl _ _ | refine below_next (by with_reducible assumption) ?_))) (by omega)).mono ?_
    rintro e w2 ⟨A2, c2, rfl, r2, hb2⟩
    go_wp2_with fail
    refine (Print_any A2 n c2 l _ r2 (hV.carry (by repeat (first | with_reducible assumption | exact Below.refl _ _ | refine below_next (by with_reducible assumption) ?_))).x.ten (by omega)).mono ?_
    rintro e w3 ⟨rfl, hb3⟩
    go_wp2_with fail
    refine (HX.out.a _ (hV.carry (by repeat (first | with_reducible assumption | exact Below.refl _ _ | refine below_next (by with_reducible assumption) ?_))).x).mono ?_
    rintro e w4 ⟨A4, c4, rfl, r4, hb4⟩
    go_wp2_with fail
    refine (rCheckSources_any A n c l _ (carry hR (by repeat (first | with_reducible assumption | exact Below.refl _ _ | refine below_next (by with_reducible assumption) ?_))) (by omega)).mono ?_
    rintro e w5 ⟨rfl, hb5⟩
    rw [HP.out]
    go_wp2_with fail
    refine (HX.out.b _).mono ?_
    rintro e w7 ⟨A7, c7, rfl, r7, hb7⟩
    go_wp2_with fail
    refine (told_any A4 m c4 L _ (carry r4 (by repeat (first | with_reducible assumption | exact Below.refl _ _ | refine below_next (by with_reducible assumption) ?_))) (by omega)).mono ?_
    rintro e w8 ⟨A8, c8, rfl, r8, hb8⟩
    go_wp2_with fail
    refine (rSame_any A8 m c8 L A7 m c7 L _ r8 (carry r7 hb8) (by omega) (by omega)).mono ?_
    rintro e w9 ⟨rfl, hb9⟩
    rw [decide_eq_true rfl]
    go_wp2_with fail
    go_ret
    exact ⟨rfl, (by repeat (first | with_reducible assumption | exact Below.refl _ _ | refine below_next (by with_reducible assumption) ?_))⟩
set_option maxHeartbeats 8000000 in
theorem lawTxt_go2 (A : Option Addr) (n c : Nat) (l : List Src) (s : ByteArray) (w : World) (hR : Reads w w.heap.size 4 A n (srcs l)) (hV : VarsT w) (h1 : shrt n 8 = true) (t1 : decide (300 < (s.size : Int)) = true) (t2 : ((s.size : Int) != 4097) = false) (m : Nat) (L : List Src) (K E : Int) (hX : Txt s m L K E) :
    Calls Tryz.prog 15 #[.slice A n c, .string s] w fun e w' => e = .returned (.bool true) ∧ Below w.heap.size w w' := by
  by_cases he : lstErr l = 0
  · have HP := hide (show prT l = ⟨(txtS l).toArray⟩ by unfold prT; rw [if_pos he])
    have H0 := hide he
    clear he
    have hn17 : n ≤ 17 := by unfold shrt at h1; simp at h1; omega
    have H1 := hide h1
    have HX := hide hX
    have hm16 := hX.m16
    clear h1 hX
    go_enter Tryz.func15, Tryz.ntmps15
    go_wp2_with fail
    refine (awake_any _ hV.vr hV.x.ten).mono ?_
    rintro e w1 ⟨rfl, hb1⟩
    go_wp2_with fail
    refine (short_any A n c 8 _).mono ?_
    rintro e W1 ⟨rfl, hW1⟩
    rw [← hW1]
    clear hW1 W1
    rw [H1.out]
    go_wp2_with fail
    refine (own_any A n c l _ (carry hR (by repeat (first | with_reducible assumption | exact Below.refl _ _ | refine below_next (by with_reducible assumption) ?_))) (by omega)).mono ?_
    rintro e w2 ⟨A2, c2, rfl, r2, hb2⟩
    go_wp2_with fail
    refine (Print_any A2 n c2 l _ r2 (hV.carry (by repeat (first | with_reducible assumption | exact Below.refl _ _ | refine below_next (by with_reducible assumption) ?_))).x.ten (by omega)).mono ?_
    rintro e w3 ⟨rfl, hb3⟩
    go_wp2_with fail
    refine (HX.out.a _ (hV.carry (by repeat (first | with_reducible assumption | exact Below.refl _ _ | refine below_next (by with_reducible assumption) ?_))).x).mono ?_
    rintro e w4 ⟨A4, c4, rfl, r4, hb4⟩
    go_wp2_with fail
    refine (rCheckSources_any A n c l _ (carry hR (by repeat (first | with_reducible assumption | exact Below.refl _ _ | refine below_next (by with_reducible assumption) ?_))) (by omega)).mono ?_
    rintro e w5 ⟨rfl, hb5⟩
    rw [HP.out, H0.out]
    go_wp2_with fail
    refine (rPrint_ok A n c l _ (carry hR (by repeat (first | with_reducible assumption | exact Below.refl _ _ | refine below_next (by with_reducible assumption) ?_))) H0.out).mono ?_
    rintro e w6 ⟨rfl, hb6⟩
    go_wp2_with fail
    refine (HX.out.b _).mono ?_
    rintro e w7 ⟨A7, c7, rfl, r7, hb7⟩
    go_wp2_with fail
    refine (told_any A4 m c4 L _ (carry r4 (by repeat (first | with_reducible assumption | exact Below.refl _ _ | refine below_next (by with_reducible assumption) ?_))) (by omega)).mono ?_
    rintro e w8 ⟨A8, c8, rfl, r8, hb8⟩
    go_wp2_with fail
    refine (rSame_any A8 m c8 L A7 m c7 L _ r8 (carry r7 hb8) (by omega) (by omega)).mono ?_
    rintro e w9 ⟨rfl, hb9⟩
    rw [decide_eq_true rfl]
    go_wp2_with fail
    go_ret
    exact ⟨rfl, (by repeat (first | with_reducible assumption | exact Below.refl _ _ | refine below_next (by with_reducible assumption) ?_))⟩
  · have HP := hide (show prT l = ⟨#[]⟩ by unfold prT; rw [if_neg he])
    have t0 : (lstErr l == 0) = false := by simpa using he
    clear he
    have hn17 : n ≤ 17 := by unfold shrt at h1; simp at h1; omega
    have H1 := hide h1
    have HX := hide hX
    have hm16 := hX.m16
    clear h1 hX
    go_enter Tryz.func15, Tryz.ntmps15
    go_wp2_with fail
    refine (awake_any _ hV.vr hV.x.ten).mono ?_
    rintro e w1 ⟨rfl, hb1⟩
    go_wp2_with fail
    refine (short_any A n c 8 _).mono ?_
    rintro e W1 ⟨rfl, hW1⟩
    rw [← hW1]
    clear hW1 W1
    rw [H1.out]
    go_wp2_with fail
    refine (own_any A n c l _ (carry hR (by repeat (first | with_reducible assumption | exact Below.refl _ _ | refine below_next (by with_reducible assumption) ?_))) (by omega)).mono ?_
    rintro e w2 ⟨A2, c2, rfl, r2, hb2⟩
    go_wp2_with fail
    refine (Print_any A2 n c2 l _ r2 (hV.carry (by repeat (first | with_reducible assumption | exact Below.refl _ _ | refine below_next (by with_reducible assumption) ?_))).x.ten (by omega)).mono ?_
    rintro e w3 ⟨rfl, hb3⟩
    go_wp2_with fail
    refine (HX.out.a _ (hV.carry (by repeat (first | with_reducible assumption | exact Below.refl _ _ | refine below_next (by with_reducible assumption) ?_))).x).mono ?_
    rintro e w4 ⟨A4, c4, rfl, r4, hb4⟩
    go_wp2_with fail
    refine (rCheckSources_any A n c l _ (carry hR (by repeat (first | with_reducible assumption | exact Below.refl _ _ | refine below_next (by with_reducible assumption) ?_))) (by omega)).mono ?_
    rintro e w5 ⟨rfl, hb5⟩
    rw [HP.out]
    go_wp2_with fail
    refine (HX.out.b _).mono ?_
    rintro e w7 ⟨A7, c7, rfl, r7, hb7⟩
    go_wp2_with fail
    refine (told_any A4 m c4 L _ (carry r4 (by repeat (first | with_reducible assumption | exact Below.refl _ _ | refine below_next (by with_reducible assumption) ?_))) (by omega)).mono ?_
    rintro e w8 ⟨A8, c8, rfl, r8, hb8⟩
    go_wp2_with fail
    refine (rSame_any A8 m c8 L A7 m c7 L _ r8 (carry r7 hb8) (by omega) (by omega)).mono ?_
    rintro e w9 ⟨rfl, hb9⟩
    rw [decide_eq_true rfl]
    go_wp2_with fail
    go_ret
    exact ⟨rfl, (by repeat (first | with_reducible assumption | exact Below.refl _ _ | refine below_next (by with_reducible assumption) ?_))⟩
set_option maxHeartbeats 8000000 in
theorem lawTxt_any (A : Option Addr) (n c : Nat) (l : List Src) (s : ByteArray) (w : World) (hR : Reads w w.heap.size 4 A n (srcs l)) (hV : VarsT w)  :
    Calls Tryz.prog 15 #[.slice A n c, .string s] w fun e w' => e = .returned (.bool true) ∧ Below w.heap.size w w' := by
  cases h1 : shrt n 8 with
  | false => exact lawTxt_long1 A n c l s w hR hV h1
  | true =>
    cases t1 : decide (300 < (s.size : Int)) with
    | false => exact lawTxt_go1 A n c l s w hR hV h1 t1 _ _ _ _ (txt_of s)
    | true =>
      cases t2 : ((s.size : Int) != 4097) with
      | true => exact lawTxt_long2 A n c l s w hR hV h1 t1 t2
      | false => exact lawTxt_go2 A n c l s w hR hV h1 t1 t2 _ _ _ _ (txt_of s)
end Go.Proofs.YtcihiglpahhboaaGreatDoor
