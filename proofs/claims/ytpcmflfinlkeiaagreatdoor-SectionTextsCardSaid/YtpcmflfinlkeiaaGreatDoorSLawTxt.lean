/- The law SectionTexts: for all arguments it returns true. -/
import Derived.Test.YtpcmflfinlkeiaaGreatDoorAwake
import Derived.Test.YtpcmflfinlkeiaaGreatDoorSRPar
import Derived.Test.YtpcmflfinlkeiaaGreatDoorSRSam
import Derived.Test.YtpcmflfinlkeiaaGreatDoorSPack
import Derived.Test.YtpcmflfinlkeiaaGreatDoorSUnp
namespace Go.Proofs.YtpcmflfinlkeiaaGreatDoor
open Go.RowKit Go.Shelf
set_option maxRecDepth 100000
theorem below_next {a b c : World} (h1 : Below a.heap.size a b) (h2 : Below b.heap.size b c) : Below a.heap.size a c := below_step h1 h2 h1.size
/-- What the laws on texts ask of the variables. -/
structure VarsT (w : World) : Prop where
  pow : Pow w
  x : TxV w
theorem VarsT.carry {w w' : World} (h : VarsT w) (hb : Below w.heap.size w w') : VarsT w' := ⟨carryP h.pow hb, h.x.carry hb⟩
theorem pgo_len : ∀ {ls : List (List UInt8)} {acc : List Sec}, (pgo acc ls).1.length ≤ 8 := by
  intro ls
  induction ls with
  | nil => intro acc; simp [pgo]
  | cons w r ih =>
    intro acc
    cases r with
    | nil =>
      by_cases hw : w = []
      · subst hw
        rw [pgo_end]
        split
        · exact (secErr_ok ‹_›).1
        · simp
      · rw [pgo_last acc hw]; simp
    | cons v r =>
      cases hp : pline w with
      | none => rw [pgo_bad acc (by simp) hp]; simp
      | some s => rw [pgo_good acc (by simp) hp]; exact ih
theorem parS_len (s : List UInt8) : (parS s).1.length ≤ 8 := by
  unfold parS
  split
  · simp
  · exact pgo_len
theorem upk_len (xs : List Int) : (upk xs).1.length ≤ 8 := by
  unfold upk
  split
  · simp
  · split
    · simp
    · split
      · exact (secErr_ok ‹_›).1
      · simp
theorem Pack_ok (A : Option Addr) (n c : Nat) (l : List Sec) (w : World) (he : secErr l = 0) (hn : n ≤ 1000000) (hR : Reads w w.heap.size 6 A n (secs l)) :
    Calls Tryz.prog 6 #[.slice A n c] w fun e w' => ∃ A' c', e = .returned (.tuple #[.slice A' (n * 6) c', .int .i64 0]) ∧ Reads w' w'.heap.size 1 A' (n * 6) (ints (pack l)) ∧ Hid (n * 6 ≤ c' ∧ c' ≤ 9223372036854775807) ∧ Below w.heap.size w w' := by
  have h := Pack_tot A n c l w hn hR
  have e0 : pkE l = pack l := by unfold pkE; rw [if_pos he]
  have e1 : (pkE l).length = n * 6 := by rw [e0, pack_len, secs_reads_len hR]
  rw [e1, e0, he] at h
  exact h
theorem Pack_bad (A : Option Addr) (n c : Nat) (l : List Sec) (w : World) (he : ¬ secErr l = 0) (hn : n ≤ 1000000) (hR : Reads w w.heap.size 6 A n (secs l)) :
    Calls Tryz.prog 6 #[.slice A n c] w fun e w' => ∃ A' c', e = .returned (.tuple #[.slice A' 0 c', .int .i64 (secErr l)]) ∧ Reads w' w'.heap.size 1 A' 0 (ints []) ∧ Below w.heap.size w w' := by
  have h := Pack_tot A n c l w hn hR
  have e0 : pkE l = [] := by unfold pkE; rw [if_neg he]
  rw [e0] at h
  exact h.mono fun _ _ ⟨A', c', h1, h2, _, h3⟩ => ⟨A', c', h1, h2, h3⟩
theorem same_sl (A : Option Addr) (n c : Nat) (xs : List Int) (A' : Option Addr) (c' : Nat) (w : World) (h : Reads w w.heap.size 1 A n (ints xs)) (h' : Reads w w.heap.size 1 A' n (ints xs)) (hn : n ≤ 1000000000000) :
    Calls Tryz.prog 17 #[.slice A n c, .slice A' n c'] w fun r w' => r = .returned (.bool true) ∧ Below w.heap.size w w' :=
  (sameInts_any A n c _ xs A' n c' _ xs w h h' (Nat.le_refl _) (Nat.le_refl _) hn hn).mono fun _ _ h => by simpa using h
/-- What an Unpack says, by name. -/
def UpAt (m : Nat) (L : List Sec) (E : Int) (w : World) (e : Ending) (w' : World) : Prop :=
  ∃ A c, e = .returned (.tuple #[.slice A m c, .int .i64 E]) ∧ Reads w' w'.heap.size 6 A m (secs L) ∧ Below w.heap.size w w'
structure UpS (xs : List Int) (n m : Nat) (L : List Sec) (E : Int) : Prop where
  a : ∀ A c W, Reads W W.heap.size 1 A n (ints xs) → n ≤ c → c ≤ 9223372036854775807 → Calls Tryz.prog 8 #[.slice A n c] W (UpAt m L E W)
  b : ∀ A c W, Reads W W.heap.size 1 A n (ints xs) → n ≤ c → c ≤ 9223372036854775807 → Calls Tryz.prog 15 #[.slice A n c] W (UpAt m L E W)
  m8 : m ≤ 8
theorem upS_of (xs : List Int) (n : Nat) (hn : n ≤ 54) : UpS xs n (upk xs).1.length (upk xs).1 (upk xs).2 :=
  ⟨fun A c W h h1 h2 => Unpack_tot A n c xs W h (by omega) h1 h2, fun A c W h h1 h2 => rUnpack_any A n c xs W h hn h1 h2, upk_len _⟩
/-- What the callees of the law say, by name. -/
structure TxtS (s : ByteArray) (m : Nat) (L : List Sec) (K E : Int) : Prop where
  a : ∀ W, TxV W → Calls Tryz.prog 11 #[.string s] W (PsAt m L K E W)
  b : ∀ W, Calls Tryz.prog 16 #[.string s] W (PsAt m L K E W)
  m8 : m ≤ 8
theorem txtS_of (s : ByteArray) : TxtS s (parS s.data.toList).1.length (parS s.data.toList).1 (parS s.data.toList).2.1 (parS s.data.toList).2.2 := ⟨fun W h => Parse_any s W h, fun W => rParse_any s W, parS_len _⟩
set_option maxHeartbeats 8000000 in
theorem lawTxt_long1 (A : Option Addr) (n c : Nat) (l : List Sec) (B : Option Addr) (k d : Nat) (xs : List Int) (s : ByteArray) (w : World) (_hR : Reads w w.heap.size 6 A n (secs l)) (_hN : Reads w w.heap.size 1 B k (ints xs)) (hkd : k ≤ d ∧ d ≤ 9223372036854775807) (hV : VarsT w) (t0 : decide (9 < (n : Int)) = true) :
    Calls Tryz.prog 3 #[.slice A n c, .slice B k d, .string s] w fun e w' => e = .returned (.bool true) ∧ Below w.heap.size w w' := by
  have HKD := hide hkd
  clear hkd
  go_enter Tryz.func3, Tryz.ntmps3
  go_wp2_with fail
  refine (awake_any _ hV.pow hV.x.ten).mono ?_
  rintro e wz ⟨rfl, hbz⟩
  go_wp2_with fail
  go_ret
  exact ⟨rfl, hbz⟩
set_option maxHeartbeats 8000000 in
theorem lawTxt_long2 (A : Option Addr) (n c : Nat) (l : List Sec) (B : Option Addr) (k d : Nat) (xs : List Int) (s : ByteArray) (w : World) (_hR : Reads w w.heap.size 6 A n (secs l)) (_hN : Reads w w.heap.size 1 B k (ints xs)) (hkd : k ≤ d ∧ d ≤ 9223372036854775807) (hV : VarsT w) (t0 : decide (9 < (n : Int)) = false) (t1 : decide (54 < (k : Int)) = true) :
    Calls Tryz.prog 3 #[.slice A n c, .slice B k d, .string s] w fun e w' => e = .returned (.bool true) ∧ Below w.heap.size w w' := by
  have HKD := hide hkd
  clear hkd
  go_enter Tryz.func3, Tryz.ntmps3
  go_wp2_with fail
  refine (awake_any _ hV.pow hV.x.ten).mono ?_
  rintro e wz ⟨rfl, hbz⟩
  go_wp2_with fail
  go_ret
  exact ⟨rfl, hbz⟩
set_option maxHeartbeats 8000000 in
theorem lawTxt_long3 (A : Option Addr) (n c : Nat) (l : List Sec) (B : Option Addr) (k d : Nat) (xs : List Int) (s : ByteArray) (w : World) (_hR : Reads w w.heap.size 6 A n (secs l)) (_hN : Reads w w.heap.size 1 B k (ints xs)) (hkd : k ≤ d ∧ d ≤ 9223372036854775807) (hV : VarsT w) (t0 : decide (9 < (n : Int)) = false) (t1 : decide (54 < (k : Int)) = false) (t2 : decide (300 < (s.size : Int)) = true) (t3 : ((s.size : Int) != 4097) = true) :
    Calls Tryz.prog 3 #[.slice A n c, .slice B k d, .string s] w fun e w' => e = .returned (.bool true) ∧ Below w.heap.size w w' := by
  have HKD := hide hkd
  clear hkd
  go_enter Tryz.func3, Tryz.ntmps3
  go_wp2_with fail
  refine (awake_any _ hV.pow hV.x.ten).mono ?_
  rintro e wz ⟨rfl, hbz⟩
  go_wp2_with fail
  go_ret
  exact ⟨rfl, hbz⟩
set_option maxHeartbeats 8000000 in
theorem lawTxt_go1 (A : Option Addr) (n c : Nat) (l : List Sec) (B : Option Addr) (k d : Nat) (xs : List Int) (s : ByteArray) (w : World) (hR : Reads w w.heap.size 6 A n (secs l)) (hN : Reads w w.heap.size 1 B k (ints xs)) (hkd : k ≤ d ∧ d ≤ 9223372036854775807) (hV : VarsT w) (t0 : decide (9 < (n : Int)) = false) (t1 : decide (54 < (k : Int)) = false) (t2 : decide (300 < (s.size : Int)) = false) (m : Nat) (L : List Sec) (K E : Int) (hX : TxtS s m L K E) (mu : Nat) (LU : List Sec) (EU : Int) (hU : UpS xs k mu LU EU) :
    Calls Tryz.prog 3 #[.slice A n c, .slice B k d, .string s] w fun e w' => e = .returned (.bool true) ∧ Below w.heap.size w w' := by
  by_cases he : secErr l = 0
  · have HP := hide (show prE l = ⟨(txtS l).toArray⟩ by unfold prE; rw [if_pos he])
    have H0 := hide he
    clear he
    have hn9 : n ≤ 9 := by have := of_decide_eq_false t0; omega
    have hk54 : k ≤ 54 := by have := of_decide_eq_false t1; omega
    have HKD := hide hkd
    have HX := hide hX
    have HU := hide hU
    have hm8 := hX.m8
    have hu8 := hU.m8
    clear hX hU hkd
    go_enter Tryz.func3, Tryz.ntmps3
    go_wp2_with fail
    refine (given_any A n c l _ hR (by omega)).mono ?_
    rintro e w1 ⟨v1, rfl, o1, hb1⟩
    obtain ⟨A1, c1, rfl, r1⟩ := own_slice o1
    clear o1
    go_wp2_with fail
    refine (Pack_ok A1 n c1 l _ H0.out (by omega) r1).mono ?_
    rintro e w2 ⟨A2, c2, rfl, r2, _, hb2⟩
    go_wp2_with fail
    refine (ints_any B k d xs _ (carryR hN (by repeat (first | with_reducible assumption | exact Below.refl _ _ | refine below_next (by with_reducible assumption) ?_))) (by omega)).mono ?_
    rintro e w3 ⟨v3, rfl, o3, hb3⟩
    have q3 := own_cap o3
    obtain ⟨A3, c3, rfl, r3⟩ := own_slice o3
    have Q3 := hide (q3 _ _ _ rfl)
    clear o3 q3
    go_wp2_with fail
    refine (HU.out.a A3 c3 _ r3 Q3.out.1 Q3.out.2).mono ?_
    rintro e w4 ⟨A4, c4, rfl, r4, hb4⟩
    go_wp2_with fail
    refine (given_any A n c l _ (carryR hR (by repeat (first | with_reducible assumption | exact Below.refl _ _ | refine below_next (by with_reducible assumption) ?_))) (by omega)).mono ?_
    rintro e w5 ⟨v5, rfl, o5, hb5⟩
    obtain ⟨A5, c5, rfl, r5⟩ := own_slice o5
    clear o5
    go_wp2_with fail
    refine (Print_tot A5 n c5 l _ (by omega) r5 (hV.carry (by repeat (first | with_reducible assumption | exact Below.refl _ _ | refine below_next (by with_reducible assumption) ?_))).x.ten).mono ?_
    rintro e w6 ⟨rfl, hb6⟩
    go_wp2_with fail
    refine (HX.out.a _ (hV.carry (by repeat (first | with_reducible assumption | exact Below.refl _ _ | refine below_next (by with_reducible assumption) ?_))).x).mono ?_
    rintro e w7 ⟨A7, c7, rfl, r7, hb7⟩
    go_wp2_with fail
    refine (rCheckSections_any A n c l _ (carryR hR (by repeat (first | with_reducible assumption | exact Below.refl _ _ | refine below_next (by with_reducible assumption) ?_))) (by omega)).mono ?_
    rintro e w8 ⟨rfl, hb8⟩
    rw [HP.out, H0.out]
    go_wp2_with fail
    refine (rPack_any A n c l _ (carryR hR (by repeat (first | with_reducible assumption | exact Below.refl _ _ | refine below_next (by with_reducible assumption) ?_))) (by omega)).mono ?_
    rintro e w9 ⟨v9, rfl, o9, hb9⟩
    obtain ⟨A9, c9, rfl, r9⟩ := own_slice o9
    clear o9
    go_wp2_with fail
    refine (rPrint_ok A n c l _ (carryR hR (by repeat (first | with_reducible assumption | exact Below.refl _ _ | refine below_next (by with_reducible assumption) ?_))) H0.out).mono ?_
    rintro e w10 ⟨rfl, hb10⟩
    go_wp2_with fail
    refine (HU.out.b B d _ (carryR hN (by repeat (first | with_reducible assumption | exact Below.refl _ _ | refine below_next (by with_reducible assumption) ?_))) HKD.out.1 HKD.out.2).mono ?_
    rintro e w11 ⟨A11, c11, rfl, r11, hb11⟩
    go_wp2_with fail
    refine (HX.out.b _).mono ?_
    rintro e w12 ⟨A12, c12, rfl, r12, hb12⟩
    go_wp2_with fail
    refine (same_sl A2 (n * 6) c2 (pack l) A9 c9 _ (carryR r2 (by repeat (first | with_reducible assumption | exact Below.refl _ _ | refine below_next (by with_reducible assumption) ?_))) (carryR r9 (by repeat (first | with_reducible assumption | exact Below.refl _ _ | refine below_next (by with_reducible assumption) ?_))) (by omega)).mono ?_
    rintro e w13 ⟨rfl, hb13⟩
    go_wp2_with fail
    refine (told_any A4 mu c4 LU _ (carryR r4 (by repeat (first | with_reducible assumption | exact Below.refl _ _ | refine below_next (by with_reducible assumption) ?_))) (by omega)).mono ?_
    rintro e w14 ⟨v14, rfl, o14, hb14⟩
    obtain ⟨A14, c14, rfl, r14⟩ := own_slice o14
    clear o14
    go_wp2_with fail
    refine (sameSec_any A14 mu c14 LU A11 c11 _ r14 (carryR r11 (by repeat (first | with_reducible assumption | exact Below.refl _ _ | refine below_next (by with_reducible assumption) ?_))) (by omega)).mono ?_
    rintro e w15 ⟨rfl, hb15⟩
    go_wp2_with fail
    refine (told_any A7 m c7 L _ (carryR r7 (by repeat (first | with_reducible assumption | exact Below.refl _ _ | refine below_next (by with_reducible assumption) ?_))) (by omega)).mono ?_
    rintro e w16 ⟨v16, rfl, o16, hb16⟩
    obtain ⟨A16, c16, rfl, r16⟩ := own_slice o16
    clear o16
    go_wp2_with fail
    refine (sameSec_any A16 m c16 L A12 c12 _ r16 (carryR r12 (by repeat (first | with_reducible assumption | exact Below.refl _ _ | refine below_next (by with_reducible assumption) ?_))) (by omega)).mono ?_
    rintro e w17 ⟨rfl, hb17⟩
    go_wp2_with fail
    refine (awake_any _ (hV.carry (by repeat (first | with_reducible assumption | exact Below.refl _ _ | refine below_next (by with_reducible assumption) ?_))).pow (hV.carry (by repeat (first | with_reducible assumption | exact Below.refl _ _ | refine below_next (by with_reducible assumption) ?_))).x.ten).mono ?_
    rintro e wz ⟨rfl, hbz⟩
    go_wp2_with fail
    go_ret
    exact ⟨rfl, (by repeat (first | with_reducible assumption | exact Below.refl _ _ | refine below_next (by with_reducible assumption) ?_))⟩
  · have HP := hide (show prE l = ⟨#[]⟩ by unfold prE; rw [if_neg he])
    have t9 : (secErr l == 0) = false := by simpa using he
    have HE := hide he
    clear he
    have hn9 : n ≤ 9 := by have := of_decide_eq_false t0; omega
    have hk54 : k ≤ 54 := by have := of_decide_eq_false t1; omega
    have HKD := hide hkd
    have HX := hide hX
    have HU := hide hU
    have hm8 := hX.m8
    have hu8 := hU.m8
    clear hX hU hkd
    go_enter Tryz.func3, Tryz.ntmps3
    go_wp2_with fail
    refine (given_any A n c l _ hR (by omega)).mono ?_
    rintro e w1 ⟨v1, rfl, o1, hb1⟩
    obtain ⟨A1, c1, rfl, r1⟩ := own_slice o1
    clear o1
    go_wp2_with fail
    refine (Pack_bad A1 n c1 l _ HE.out (by omega) r1).mono ?_
    rintro e w2 ⟨A2, c2, rfl, r2, hb2⟩
    go_wp2_with fail
    refine (ints_any B k d xs _ (carryR hN (by repeat (first | with_reducible assumption | exact Below.refl _ _ | refine below_next (by with_reducible assumption) ?_))) (by omega)).mono ?_
    rintro e w3 ⟨v3, rfl, o3, hb3⟩
    have q3 := own_cap o3
    obtain ⟨A3, c3, rfl, r3⟩ := own_slice o3
    have Q3 := hide (q3 _ _ _ rfl)
    clear o3 q3
    go_wp2_with fail
    refine (HU.out.a A3 c3 _ r3 Q3.out.1 Q3.out.2).mono ?_
    rintro e w4 ⟨A4, c4, rfl, r4, hb4⟩
    go_wp2_with fail
    refine (given_any A n c l _ (carryR hR (by repeat (first | with_reducible assumption | exact Below.refl _ _ | refine below_next (by with_reducible assumption) ?_))) (by omega)).mono ?_
    rintro e w5 ⟨v5, rfl, o5, hb5⟩
    obtain ⟨A5, c5, rfl, r5⟩ := own_slice o5
    clear o5
    go_wp2_with fail
    refine (Print_tot A5 n c5 l _ (by omega) r5 (hV.carry (by repeat (first | with_reducible assumption | exact Below.refl _ _ | refine below_next (by with_reducible assumption) ?_))).x.ten).mono ?_
    rintro e w6 ⟨rfl, hb6⟩
    go_wp2_with fail
    refine (HX.out.a _ (hV.carry (by repeat (first | with_reducible assumption | exact Below.refl _ _ | refine below_next (by with_reducible assumption) ?_))).x).mono ?_
    rintro e w7 ⟨A7, c7, rfl, r7, hb7⟩
    go_wp2_with fail
    refine (rCheckSections_any A n c l _ (carryR hR (by repeat (first | with_reducible assumption | exact Below.refl _ _ | refine below_next (by with_reducible assumption) ?_))) (by omega)).mono ?_
    rintro e w8 ⟨rfl, hb8⟩
    rw [HP.out]
    go_wp2_with fail
    refine (HU.out.b B d _ (carryR hN (by repeat (first | with_reducible assumption | exact Below.refl _ _ | refine below_next (by with_reducible assumption) ?_))) HKD.out.1 HKD.out.2).mono ?_
    rintro e w11 ⟨A11, c11, rfl, r11, hb11⟩
    go_wp2_with fail
    refine (HX.out.b _).mono ?_
    rintro e w12 ⟨A12, c12, rfl, r12, hb12⟩
    go_wp2_with fail
    refine (same_sl A2 0 c2 [] none 0 _ (carryR r2 (by repeat (first | with_reducible assumption | exact Below.refl _ _ | refine below_next (by with_reducible assumption) ?_))) Reads.none_ (by omega)).mono ?_
    rintro e w13 ⟨rfl, hb13⟩
    go_wp2_with fail
    refine (told_any A4 mu c4 LU _ (carryR r4 (by repeat (first | with_reducible assumption | exact Below.refl _ _ | refine below_next (by with_reducible assumption) ?_))) (by omega)).mono ?_
    rintro e w14 ⟨v14, rfl, o14, hb14⟩
    obtain ⟨A14, c14, rfl, r14⟩ := own_slice o14
    clear o14
    go_wp2_with fail
    refine (sameSec_any A14 mu c14 LU A11 c11 _ r14 (carryR r11 (by repeat (first | with_reducible assumption | exact Below.refl _ _ | refine below_next (by with_reducible assumption) ?_))) (by omega)).mono ?_
    rintro e w15 ⟨rfl, hb15⟩
    go_wp2_with fail
    refine (told_any A7 m c7 L _ (carryR r7 (by repeat (first | with_reducible assumption | exact Below.refl _ _ | refine below_next (by with_reducible assumption) ?_))) (by omega)).mono ?_
    rintro e w16 ⟨v16, rfl, o16, hb16⟩
    obtain ⟨A16, c16, rfl, r16⟩ := own_slice o16
    clear o16
    go_wp2_with fail
    refine (sameSec_any A16 m c16 L A12 c12 _ r16 (carryR r12 (by repeat (first | with_reducible assumption | exact Below.refl _ _ | refine below_next (by with_reducible assumption) ?_))) (by omega)).mono ?_
    rintro e w17 ⟨rfl, hb17⟩
    go_wp2_with fail
    refine (awake_any _ (hV.carry (by repeat (first | with_reducible assumption | exact Below.refl _ _ | refine below_next (by with_reducible assumption) ?_))).pow (hV.carry (by repeat (first | with_reducible assumption | exact Below.refl _ _ | refine below_next (by with_reducible assumption) ?_))).x.ten).mono ?_
    rintro e wz ⟨rfl, hbz⟩
    go_wp2_with fail
    go_ret
    exact ⟨rfl, (by repeat (first | with_reducible assumption | exact Below.refl _ _ | refine below_next (by with_reducible assumption) ?_))⟩
set_option maxHeartbeats 8000000 in
theorem lawTxt_go2 (A : Option Addr) (n c : Nat) (l : List Sec) (B : Option Addr) (k d : Nat) (xs : List Int) (s : ByteArray) (w : World) (hR : Reads w w.heap.size 6 A n (secs l)) (hN : Reads w w.heap.size 1 B k (ints xs)) (hkd : k ≤ d ∧ d ≤ 9223372036854775807) (hV : VarsT w) (t0 : decide (9 < (n : Int)) = false) (t1 : decide (54 < (k : Int)) = false) (t2 : decide (300 < (s.size : Int)) = true) (t3 : ((s.size : Int) != 4097) = false) (m : Nat) (L : List Sec) (K E : Int) (hX : TxtS s m L K E) (mu : Nat) (LU : List Sec) (EU : Int) (hU : UpS xs k mu LU EU) :
    Calls Tryz.prog 3 #[.slice A n c, .slice B k d, .string s] w fun e w' => e = .returned (.bool true) ∧ Below w.heap.size w w' := by
  by_cases he : secErr l = 0
  · have HP := hide (show prE l = ⟨(txtS l).toArray⟩ by unfold prE; rw [if_pos he])
    have H0 := hide he
    clear he
    have hn9 : n ≤ 9 := by have := of_decide_eq_false t0; omega
    have hk54 : k ≤ 54 := by have := of_decide_eq_false t1; omega
    have HKD := hide hkd
    have HX := hide hX
    have HU := hide hU
    have hm8 := hX.m8
    have hu8 := hU.m8
    clear hX hU hkd
    go_enter Tryz.func3, Tryz.ntmps3
    go_wp2_with fail
    refine (given_any A n c l _ hR (by omega)).mono ?_
    rintro e w1 ⟨v1, rfl, o1, hb1⟩
    obtain ⟨A1, c1, rfl, r1⟩ := own_slice o1
    clear o1
    go_wp2_with fail
    refine (Pack_ok A1 n c1 l _ H0.out (by omega) r1).mono ?_
    rintro e w2 ⟨A2, c2, rfl, r2, _, hb2⟩
    go_wp2_with fail
    refine (ints_any B k d xs _ (carryR hN (by repeat (first | with_reducible assumption | exact Below.refl _ _ | refine below_next (by with_reducible assumption) ?_))) (by omega)).mono ?_
    rintro e w3 ⟨v3, rfl, o3, hb3⟩
    have q3 := own_cap o3
    obtain ⟨A3, c3, rfl, r3⟩ := own_slice o3
    have Q3 := hide (q3 _ _ _ rfl)
    clear o3 q3
    go_wp2_with fail
    refine (HU.out.a A3 c3 _ r3 Q3.out.1 Q3.out.2).mono ?_
    rintro e w4 ⟨A4, c4, rfl, r4, hb4⟩
    go_wp2_with fail
    refine (given_any A n c l _ (carryR hR (by repeat (first | with_reducible assumption | exact Below.refl _ _ | refine below_next (by with_reducible assumption) ?_))) (by omega)).mono ?_
    rintro e w5 ⟨v5, rfl, o5, hb5⟩
    obtain ⟨A5, c5, rfl, r5⟩ := own_slice o5
    clear o5
    go_wp2_with fail
    refine (Print_tot A5 n c5 l _ (by omega) r5 (hV.carry (by repeat (first | with_reducible assumption | exact Below.refl _ _ | refine below_next (by with_reducible assumption) ?_))).x.ten).mono ?_
    rintro e w6 ⟨rfl, hb6⟩
    go_wp2_with fail
    refine (HX.out.a _ (hV.carry (by repeat (first | with_reducible assumption | exact Below.refl _ _ | refine below_next (by with_reducible assumption) ?_))).x).mono ?_
    rintro e w7 ⟨A7, c7, rfl, r7, hb7⟩
    go_wp2_with fail
    refine (rCheckSections_any A n c l _ (carryR hR (by repeat (first | with_reducible assumption | exact Below.refl _ _ | refine below_next (by with_reducible assumption) ?_))) (by omega)).mono ?_
    rintro e w8 ⟨rfl, hb8⟩
    rw [HP.out, H0.out]
    go_wp2_with fail
    refine (rPack_any A n c l _ (carryR hR (by repeat (first | with_reducible assumption | exact Below.refl _ _ | refine below_next (by with_reducible assumption) ?_))) (by omega)).mono ?_
    rintro e w9 ⟨v9, rfl, o9, hb9⟩
    obtain ⟨A9, c9, rfl, r9⟩ := own_slice o9
    clear o9
    go_wp2_with fail
    refine (rPrint_ok A n c l _ (carryR hR (by repeat (first | with_reducible assumption | exact Below.refl _ _ | refine below_next (by with_reducible assumption) ?_))) H0.out).mono ?_
    rintro e w10 ⟨rfl, hb10⟩
    go_wp2_with fail
    refine (HU.out.b B d _ (carryR hN (by repeat (first | with_reducible assumption | exact Below.refl _ _ | refine below_next (by with_reducible assumption) ?_))) HKD.out.1 HKD.out.2).mono ?_
    rintro e w11 ⟨A11, c11, rfl, r11, hb11⟩
    go_wp2_with fail
    refine (HX.out.b _).mono ?_
    rintro e w12 ⟨A12, c12, rfl, r12, hb12⟩
    go_wp2_with fail
    refine (same_sl A2 (n * 6) c2 (pack l) A9 c9 _ (carryR r2 (by repeat (first | with_reducible assumption | exact Below.refl _ _ | refine below_next (by with_reducible assumption) ?_))) (carryR r9 (by repeat (first | with_reducible assumption | exact Below.refl _ _ | refine below_next (by with_reducible assumption) ?_))) (by omega)).mono ?_
    rintro e w13 ⟨rfl, hb13⟩
    go_wp2_with fail
    refine (told_any A4 mu c4 LU _ (carryR r4 (by repeat (first | with_reducible assumption | exact Below.refl _ _ | refine below_next (by with_reducible assumption) ?_))) (by omega)).mono ?_
    rintro e w14 ⟨v14, rfl, o14, hb14⟩
    obtain ⟨A14, c14, rfl, r14⟩ := own_slice o14
    clear o14
    go_wp2_with fail
    refine (sameSec_any A14 mu c14 LU A11 c11 _ r14 (carryR r11 (by repeat (first | with_reducible assumption | exact Below.refl _ _ | refine below_next (by with_reducible assumption) ?_))) (by omega)).mono ?_
    rintro e w15 ⟨rfl, hb15⟩
    go_wp2_with fail
    refine (told_any A7 m c7 L _ (carryR r7 (by repeat (first | with_reducible assumption | exact Below.refl _ _ | refine below_next (by with_reducible assumption) ?_))) (by omega)).mono ?_
    rintro e w16 ⟨v16, rfl, o16, hb16⟩
    obtain ⟨A16, c16, rfl, r16⟩ := own_slice o16
    clear o16
    go_wp2_with fail
    refine (sameSec_any A16 m c16 L A12 c12 _ r16 (carryR r12 (by repeat (first | with_reducible assumption | exact Below.refl _ _ | refine below_next (by with_reducible assumption) ?_))) (by omega)).mono ?_
    rintro e w17 ⟨rfl, hb17⟩
    go_wp2_with fail
    refine (awake_any _ (hV.carry (by repeat (first | with_reducible assumption | exact Below.refl _ _ | refine below_next (by with_reducible assumption) ?_))).pow (hV.carry (by repeat (first | with_reducible assumption | exact Below.refl _ _ | refine below_next (by with_reducible assumption) ?_))).x.ten).mono ?_
    rintro e wz ⟨rfl, hbz⟩
    go_wp2_with fail
    go_ret
    exact ⟨rfl, (by repeat (first | with_reducible assumption | exact Below.refl _ _ | refine below_next (by with_reducible assumption) ?_))⟩
  · have HP := hide (show prE l = ⟨#[]⟩ by unfold prE; rw [if_neg he])
    have t9 : (secErr l == 0) = false := by simpa using he
    have HE := hide he
    clear he
    have hn9 : n ≤ 9 := by have := of_decide_eq_false t0; omega
    have hk54 : k ≤ 54 := by have := of_decide_eq_false t1; omega
    have HKD := hide hkd
    have HX := hide hX
    have HU := hide hU
    have hm8 := hX.m8
    have hu8 := hU.m8
    clear hX hU hkd
    go_enter Tryz.func3, Tryz.ntmps3
    go_wp2_with fail
    refine (given_any A n c l _ hR (by omega)).mono ?_
    rintro e w1 ⟨v1, rfl, o1, hb1⟩
    obtain ⟨A1, c1, rfl, r1⟩ := own_slice o1
    clear o1
    go_wp2_with fail
    refine (Pack_bad A1 n c1 l _ HE.out (by omega) r1).mono ?_
    rintro e w2 ⟨A2, c2, rfl, r2, hb2⟩
    go_wp2_with fail
    refine (ints_any B k d xs _ (carryR hN (by repeat (first | with_reducible assumption | exact Below.refl _ _ | refine below_next (by with_reducible assumption) ?_))) (by omega)).mono ?_
    rintro e w3 ⟨v3, rfl, o3, hb3⟩
    have q3 := own_cap o3
    obtain ⟨A3, c3, rfl, r3⟩ := own_slice o3
    have Q3 := hide (q3 _ _ _ rfl)
    clear o3 q3
    go_wp2_with fail
    refine (HU.out.a A3 c3 _ r3 Q3.out.1 Q3.out.2).mono ?_
    rintro e w4 ⟨A4, c4, rfl, r4, hb4⟩
    go_wp2_with fail
    refine (given_any A n c l _ (carryR hR (by repeat (first | with_reducible assumption | exact Below.refl _ _ | refine below_next (by with_reducible assumption) ?_))) (by omega)).mono ?_
    rintro e w5 ⟨v5, rfl, o5, hb5⟩
    obtain ⟨A5, c5, rfl, r5⟩ := own_slice o5
    clear o5
    go_wp2_with fail
    refine (Print_tot A5 n c5 l _ (by omega) r5 (hV.carry (by repeat (first | with_reducible assumption | exact Below.refl _ _ | refine below_next (by with_reducible assumption) ?_))).x.ten).mono ?_
    rintro e w6 ⟨rfl, hb6⟩
    go_wp2_with fail
    refine (HX.out.a _ (hV.carry (by repeat (first | with_reducible assumption | exact Below.refl _ _ | refine below_next (by with_reducible assumption) ?_))).x).mono ?_
    rintro e w7 ⟨A7, c7, rfl, r7, hb7⟩
    go_wp2_with fail
    refine (rCheckSections_any A n c l _ (carryR hR (by repeat (first | with_reducible assumption | exact Below.refl _ _ | refine below_next (by with_reducible assumption) ?_))) (by omega)).mono ?_
    rintro e w8 ⟨rfl, hb8⟩
    rw [HP.out]
    go_wp2_with fail
    refine (HU.out.b B d _ (carryR hN (by repeat (first | with_reducible assumption | exact Below.refl _ _ | refine below_next (by with_reducible assumption) ?_))) HKD.out.1 HKD.out.2).mono ?_
    rintro e w11 ⟨A11, c11, rfl, r11, hb11⟩
    go_wp2_with fail
    refine (HX.out.b _).mono ?_
    rintro e w12 ⟨A12, c12, rfl, r12, hb12⟩
    go_wp2_with fail
    refine (same_sl A2 0 c2 [] none 0 _ (carryR r2 (by repeat (first | with_reducible assumption | exact Below.refl _ _ | refine below_next (by with_reducible assumption) ?_))) Reads.none_ (by omega)).mono ?_
    rintro e w13 ⟨rfl, hb13⟩
    go_wp2_with fail
    refine (told_any A4 mu c4 LU _ (carryR r4 (by repeat (first | with_reducible assumption | exact Below.refl _ _ | refine below_next (by with_reducible assumption) ?_))) (by omega)).mono ?_
    rintro e w14 ⟨v14, rfl, o14, hb14⟩
    obtain ⟨A14, c14, rfl, r14⟩ := own_slice o14
    clear o14
    go_wp2_with fail
    refine (sameSec_any A14 mu c14 LU A11 c11 _ r14 (carryR r11 (by repeat (first | with_reducible assumption | exact Below.refl _ _ | refine below_next (by with_reducible assumption) ?_))) (by omega)).mono ?_
    rintro e w15 ⟨rfl, hb15⟩
    go_wp2_with fail
    refine (told_any A7 m c7 L _ (carryR r7 (by repeat (first | with_reducible assumption | exact Below.refl _ _ | refine below_next (by with_reducible assumption) ?_))) (by omega)).mono ?_
    rintro e w16 ⟨v16, rfl, o16, hb16⟩
    obtain ⟨A16, c16, rfl, r16⟩ := own_slice o16
    clear o16
    go_wp2_with fail
    refine (sameSec_any A16 m c16 L A12 c12 _ r16 (carryR r12 (by repeat (first | with_reducible assumption | exact Below.refl _ _ | refine below_next (by with_reducible assumption) ?_))) (by omega)).mono ?_
    rintro e w17 ⟨rfl, hb17⟩
    go_wp2_with fail
    refine (awake_any _ (hV.carry (by repeat (first | with_reducible assumption | exact Below.refl _ _ | refine below_next (by with_reducible assumption) ?_))).pow (hV.carry (by repeat (first | with_reducible assumption | exact Below.refl _ _ | refine below_next (by with_reducible assumption) ?_))).x.ten).mono ?_
    rintro e wz ⟨rfl, hbz⟩
    go_wp2_with fail
    go_ret
    exact ⟨rfl, (by repeat (first | with_reducible assumption | exact Below.refl _ _ | refine below_next (by with_reducible assumption) ?_))⟩
set_option maxHeartbeats 8000000 in
theorem lawTxt_any (A : Option Addr) (n c : Nat) (l : List Sec) (B : Option Addr) (k d : Nat) (xs : List Int) (s : ByteArray) (w : World) (hR : Reads w w.heap.size 6 A n (secs l)) (hN : Reads w w.heap.size 1 B k (ints xs)) (hkd : k ≤ d ∧ d ≤ 9223372036854775807) (hV : VarsT w)  :
    Calls Tryz.prog 3 #[.slice A n c, .slice B k d, .string s] w fun e w' => e = .returned (.bool true) ∧ Below w.heap.size w w' := by
  cases t0 : decide (9 < (n : Int)) with
  | true => exact lawTxt_long1 A n c l B k d xs s w hR hN hkd hV t0
  | false =>
    cases t1 : decide (54 < (k : Int)) with
    | true => exact lawTxt_long2 A n c l B k d xs s w hR hN hkd hV t0 t1
    | false =>
      have hk : k ≤ 54 := by have := of_decide_eq_false t1; omega
      cases t2 : decide (300 < (s.size : Int)) with
      | false => exact lawTxt_go1 A n c l B k d xs s w hR hN hkd hV t0 t1 t2 _ _ _ _ (txtS_of s) _ _ _ (upS_of xs k hk)
      | true =>
        cases t3 : ((s.size : Int) != 4097) with
        | true => exact lawTxt_long3 A n c l B k d xs s w hR hN hkd hV t0 t1 t2 t3
        | false => exact lawTxt_go2 A n c l B k d xs s w hR hN hkd hV t0 t1 t2 t3 _ _ _ _ (txtS_of s) _ _ _ (upS_of xs k hk)
end Go.Proofs.YtpcmflfinlkeiaaGreatDoor
