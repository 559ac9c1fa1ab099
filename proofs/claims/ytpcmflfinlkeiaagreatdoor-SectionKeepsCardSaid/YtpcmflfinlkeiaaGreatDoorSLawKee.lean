/- The law SectionKeeps: for all arguments it returns true. -/
import Derived.Test.YtpcmflfinlkeiaaGreatDoorSLawTxt
import Derived.Test.YtpcmflfinlkeiaaGreatDoorSKeepP
import Derived.Test.YtpcmflfinlkeiaaGreatDoorBaseC
namespace Go.Proofs.YtpcmflfinlkeiaaGreatDoor
open Go.RowKit Go.Shelf
set_option maxRecDepth 100000
/-- What the law asks of the sections: the numbers unpack, and the printed text reads back. -/
structure KeD (n : Nat) (l : List Sec) (T : ByteArray) : Prop where
  pr : prE l = T
  a : ∀ W, TxV W → Calls Tryz.prog 11 #[.string T] W (PsAt n l 0 0 W)
  u : ∀ A c W, Reads W W.heap.size 1 A (n * 6) (ints (pack l)) → n * 6 ≤ c → c ≤ 9223372036854775807 → Calls Tryz.prog 8 #[.slice A (n * 6) c] W (UpAt n l 0 W)
theorem keD_of {l : List Sec} (h0 : secErr l = 0) : KeD l.length l ⟨(txtS l).toArray⟩ := by
  have hok := secErr_ok h0
  have hz := txtS_le hok.2
  have hd : (⟨(txtS l).toArray⟩ : ByteArray).data.toList = txtS l := List.toList_toArray
  refine ⟨by unfold prE; rw [if_pos h0], fun W hW => ?_, fun A c W h h1 h2 => ?_⟩
  · have := Parse_any (⟨(txtS l).toArray⟩ : ByteArray) W hW
    unfold PsPost at this
    rw [hd, parS_txt h0 hok.2 (by omega)] at this
    exact this
  · have hp := pack_len l
    have hu : upk (pack l) = (l, 0) := by
      have := upk_good (xs := pack l) (by omega) (by omega) (by rw [unpk_pack]; exact h0)
      rwa [unpk_pack] at this
    have := (upS_of (pack l) (l.length * 6) (by omega)).a A c W h h1 h2
    rwa [hu] at this
/-- What the law asks of a section that keeps all information. -/
structure Kee (q : Sec) (xs : List Int) : Prop where
  e0 : q.err = 0
  kb : q.keepB = true
  bk : q.sats St.zero xs = 0 → q.und 0 0 (q.outs St.zero xs) = xs ∧ q.undB (q.outs St.zero xs) = true
theorem kee_of {s : Sec} {xs : List Int} (h : s.Ok) (hu : s.unit ≤ 32767) (hx : sigErr xs = 0) : Kee s.keep xs := ⟨Sec.err_of (keep_ok h hu), keep_keepB s, fun hs => keep_back h hx hs⟩
theorem Run_kee (q : Sec) (A : Option Addr) (m c : Nat) (xs : List Int) (w : World) (hq : q.err = 0) (hx : sigErr xs = 0) (hm : m ≤ 1000000) (hR : Reads w w.heap.size 1 A m (ints xs)) :
    Calls Tryz.prog 22 #[.agg #[.int .i64 q.b0, .int .i64 q.b1, .int .i64 q.b2, .int .i64 q.a1, .int .i64 q.a2, .int .i64 q.sh], .slice A m c] w fun e w' => ∃ A' c', e = .returned (.tuple #[.slice A' m c', .int .i64 0]) ∧ Reads w' w'.heap.size 1 A' m (ints (q.outs St.zero xs)) ∧ Below w.heap.size w w' :=
  (Run_ok q A m c xs w (by unfold runErr; rw [hq, hx]; rfl) (by omega) hR).mono fun _ _ ⟨v, he, ho, hb⟩ => by
    obtain ⟨A', c', rfl, hr⟩ := own_slice ho
    exact ⟨A', c', he, hr, hb⟩
theorem Sat_kee (q : Sec) (A : Option Addr) (m c : Nat) (xs : List Int) (w : World) (hq : q.err = 0) (hx : sigErr xs = 0) (hm : m ≤ 1000000) (hR : Reads w w.heap.size 1 A m (ints xs)) :
    Calls Tryz.prog 23 #[.agg #[.int .i64 q.b0, .int .i64 q.b1, .int .i64 q.b2, .int .i64 q.a1, .int .i64 q.a2, .int .i64 q.sh], .slice A m c] w fun e w' => e = .returned (.tuple #[.int .i64 (q.sats St.zero xs), .int .i64 0]) ∧ Below w.heap.size w w' :=
  Saturations_ok q A m c xs w (by unfold satErr; rw [hq, hx]; rfl) (by omega) hR
theorem Undo_kee (q : Sec) (A : Option Addr) (m c : Nat) (xs : List Int) (w : World) (hq : Kee q xs) (hx : sigErr xs = 0) (hs : q.sats St.zero xs = 0) (hm : m ≤ 1000000) (hR : Reads w w.heap.size 1 A m (ints (q.outs St.zero xs))) :
    Calls Tryz.prog 24 #[.agg #[.int .i64 q.b0, .int .i64 q.b1, .int .i64 q.b2, .int .i64 q.a1, .int .i64 q.a2, .int .i64 q.sh], .slice A m c] w fun e w' => ∃ A' c', e = .returned (.tuple #[.slice A' m c', .int .i64 0]) ∧ Reads w' w'.heap.size 1 A' m (ints xs) ∧ Below w.heap.size w w' :=
  (Undo_ok q A m c _ w hq.e0 hq.kb (outs_sig hx) (by omega) hR).mono fun _ _ h => by
    obtain ⟨h1, h2⟩ := hq.bk hs
    rcases h with ⟨_, ⟨v, he, ho⟩, hb⟩ | ⟨h3, _⟩
    · rw [h1] at ho
      obtain ⟨A', c', rfl, hr⟩ := own_slice ho
      exact ⟨A', c', he, hr, hb⟩
    · rw [h2] at h3; cases h3
theorem Nearest_kee (A : Option Addr) (n c : Nat) (l : List Sec) (s : Sec) (i : Nat) (w : World) (hn : n ≤ 1000000) (hi : nearE l s = ((i : Int), 0)) (h : Reads w w.heap.size 6 A n (secs l)) :
    Calls Tryz.prog 21 #[.slice A n c, .agg #[.int .i64 s.b0, .int .i64 s.b1, .int .i64 s.b2, .int .i64 s.a1, .int .i64 s.a2, .int .i64 s.sh]] w fun e w' => e = .returned (.tuple #[.int .i64 (i : Int), .int .i64 0]) ∧ Below w.heap.size w w' := by
  have := Nearest_tot A n c l s w (by omega) h
  rwa [hi] at this
set_option maxHeartbeats 16000000 in
theorem lawKee_many1 (A : Option Addr) (n c : Nat) (l : List Sec) (B : Option Addr) (k d : Nat) (xs : List Int) (s : ByteArray) (w : World) (_hR : Reads w w.heap.size 6 A n (secs l)) (_hN : Reads w w.heap.size 1 B k (ints xs)) (hV : VarsT w) (t0 : decide (8 < (n : Int)) = true) :
    Calls Tryz.prog 4 #[.slice A n c, .slice B k d, .string s] w fun e w' => e = .returned (.bool true) ∧ Below w.heap.size w w' := by
  go_enter Tryz.func4, Tryz.ntmps4
  go_wp2_with fail
  refine (awake_any _ (hV.carry (by repeat (first | with_reducible assumption | exact Below.refl _ _ | refine below_next (by with_reducible assumption) ?_))).pow (hV.carry (by repeat (first | with_reducible assumption | exact Below.refl _ _ | refine below_next (by with_reducible assumption) ?_))).x.ten).mono ?_
  rintro e wz ⟨rfl, hbz⟩
  go_wp2_with fail
  go_ret
  exact ⟨rfl, (by repeat (first | with_reducible assumption | exact Below.refl _ _ | refine below_next (by with_reducible assumption) ?_))⟩
set_option maxHeartbeats 16000000 in
theorem lawKee_many2 (A : Option Addr) (n c : Nat) (l : List Sec) (B : Option Addr) (k d : Nat) (xs : List Int) (s : ByteArray) (w : World) (_hR : Reads w w.heap.size 6 A n (secs l)) (_hN : Reads w w.heap.size 1 B k (ints xs)) (hV : VarsT w) (t0 : decide (8 < (n : Int)) = false) (t1 : decide (40 < (k : Int)) = true) :
    Calls Tryz.prog 4 #[.slice A n c, .slice B k d, .string s] w fun e w' => e = .returned (.bool true) ∧ Below w.heap.size w w' := by
  go_enter Tryz.func4, Tryz.ntmps4
  go_wp2_with fail
  refine (awake_any _ (hV.carry (by repeat (first | with_reducible assumption | exact Below.refl _ _ | refine below_next (by with_reducible assumption) ?_))).pow (hV.carry (by repeat (first | with_reducible assumption | exact Below.refl _ _ | refine below_next (by with_reducible assumption) ?_))).x.ten).mono ?_
  rintro e wz ⟨rfl, hbz⟩
  go_wp2_with fail
  go_ret
  exact ⟨rfl, (by repeat (first | with_reducible assumption | exact Below.refl _ _ | refine below_next (by with_reducible assumption) ?_))⟩
set_option maxHeartbeats 16000000 in
theorem lawKee_err1 (A : Option Addr) (n c : Nat) (l : List Sec) (B : Option Addr) (k d : Nat) (xs : List Int) (s : ByteArray) (w : World) (hR : Reads w w.heap.size 6 A n (secs l)) (_hN : Reads w w.heap.size 1 B k (ints xs)) (hV : VarsT w) (t0 : decide (8 < (n : Int)) = false) (t1 : decide (40 < (k : Int)) = false) (t2 : (secErr l != 0) = true) :
    Calls Tryz.prog 4 #[.slice A n c, .slice B k d, .string s] w fun e w' => e = .returned (.bool true) ∧ Below w.heap.size w w' := by
  have hn8 : n ≤ 8 := by have := of_decide_eq_false t0; omega
  go_enter Tryz.func4, Tryz.ntmps4
  go_wp2_with fail
  refine (rCheckSections_any A n c l _ hR (by omega)).mono ?_
  rintro e w1 ⟨rfl, hb1⟩
  go_wp2_with fail
  refine (awake_any _ (hV.carry (by repeat (first | with_reducible assumption | exact Below.refl _ _ | refine below_next (by with_reducible assumption) ?_))).pow (hV.carry (by repeat (first | with_reducible assumption | exact Below.refl _ _ | refine below_next (by with_reducible assumption) ?_))).x.ten).mono ?_
  rintro e wz ⟨rfl, hbz⟩
  go_wp2_with fail
  go_ret
  exact ⟨rfl, (by repeat (first | with_reducible assumption | exact Below.refl _ _ | refine below_next (by with_reducible assumption) ?_))⟩
set_option maxHeartbeats 16000000 in
theorem lawKee_err2 (A : Option Addr) (n c : Nat) (l : List Sec) (B : Option Addr) (k d : Nat) (xs : List Int) (s : ByteArray) (w : World) (hR : Reads w w.heap.size 6 A n (secs l)) (hN : Reads w w.heap.size 1 B k (ints xs)) (hV : VarsT w) (t0 : decide (8 < (n : Int)) = false) (t1 : decide (40 < (k : Int)) = false) (h0 : secErr l = 0) (t2 : (sigErr xs != 0) = true) :
    Calls Tryz.prog 4 #[.slice A n c, .slice B k d, .string s] w fun e w' => e = .returned (.bool true) ∧ Below w.heap.size w w' := by
  have hn8 : n ≤ 8 := by have := of_decide_eq_false t0; omega
  have hk40 : k ≤ 40 := by have := of_decide_eq_false t1; omega
  have H0 := hide h0
  clear h0
  go_enter Tryz.func4, Tryz.ntmps4
  go_wp2_with fail
  refine (rCheckSections_any A n c l _ hR (by omega)).mono ?_
  rintro e w1 ⟨rfl, hb1⟩
  rw [H0.out]
  go_wp2_with fail
  refine (rCheckSignal_any B k d _ xs _ (carryR hN hb1) (by omega)).mono ?_
  rintro e W1 ⟨rfl, hW1⟩
  rw [← hW1]
  clear hW1 W1
  go_wp2_with fail
  refine (awake_any _ (hV.carry (by repeat (first | with_reducible assumption | exact Below.refl _ _ | refine below_next (by with_reducible assumption) ?_))).pow (hV.carry (by repeat (first | with_reducible assumption | exact Below.refl _ _ | refine below_next (by with_reducible assumption) ?_))).x.ten).mono ?_
  rintro e wz ⟨rfl, hbz⟩
  go_wp2_with fail
  go_ret
  exact ⟨rfl, (by repeat (first | with_reducible assumption | exact Below.refl _ _ | refine below_next (by with_reducible assumption) ?_))⟩
set_option maxHeartbeats 16000000 in
theorem lawKee_long (A : Option Addr) (n c : Nat) (l : List Sec) (B : Option Addr) (k d : Nat) (xs : List Int) (s : ByteArray) (w : World) (hR : Reads w w.heap.size 6 A n (secs l)) (hN : Reads w w.heap.size 1 B k (ints xs)) (hV : VarsT w) (t0 : decide (8 < (n : Int)) = false) (t1 : decide (40 < (k : Int)) = false) (h0 : secErr l = 0) (hx : sigErr xs = 0) (t2 : decide (300 < (s.size : Int)) = true) :
    Calls Tryz.prog 4 #[.slice A n c, .slice B k d, .string s] w fun e w' => e = .returned (.bool true) ∧ Below w.heap.size w w' := by
  have HS := hide hx
  clear hx
  have hn8 : n ≤ 8 := by have := of_decide_eq_false t0; omega
  have hk40 : k ≤ 40 := by have := of_decide_eq_false t1; omega
  have H0 := hide h0
  clear h0
  go_enter Tryz.func4, Tryz.ntmps4
  go_wp2_with fail
  refine (rCheckSections_any A n c l _ hR (by omega)).mono ?_
  rintro e w1 ⟨rfl, hb1⟩
  rw [H0.out]
  go_wp2_with fail
  refine (rCheckSignal_any B k d _ xs _ (carryR hN hb1) (by omega)).mono ?_
  rintro e W1 ⟨rfl, hW1⟩
  rw [← hW1]
  clear hW1 W1
  rw [HS.out]
  go_wp2_with fail
  refine (awake_any _ (hV.carry (by repeat (first | with_reducible assumption | exact Below.refl _ _ | refine below_next (by with_reducible assumption) ?_))).pow (hV.carry (by repeat (first | with_reducible assumption | exact Below.refl _ _ | refine below_next (by with_reducible assumption) ?_))).x.ten).mono ?_
  rintro e wz ⟨rfl, hbz⟩
  go_wp2_with fail
  go_ret
  exact ⟨rfl, (by repeat (first | with_reducible assumption | exact Below.refl _ _ | refine below_next (by with_reducible assumption) ?_))⟩
set_option maxHeartbeats 16000000 in
theorem lawKee_bad (A : Option Addr) (n c : Nat) (l : List Sec) (B : Option Addr) (k d : Nat) (xs : List Int) (s : ByteArray) (w : World) (hR : Reads w w.heap.size 6 A n (secs l)) (hN : Reads w w.heap.size 1 B k (ints xs)) (hV : VarsT w) (t0 : decide (8 < (n : Int)) = false) (t1 : decide (40 < (k : Int)) = false) (h0 : secErr l = 0) (hx : sigErr xs = 0) (t2 : decide (300 < (s.size : Int)) = false) (m : Nat) (L : List Sec) (K E : Int) (hX : TxtS s m L K E) (T : ByteArray) (hD : KeD n l T) (tq : (E == 0) = false) :
    Calls Tryz.prog 4 #[.slice A n c, .slice B k d, .string s] w fun e w' => e = .returned (.bool true) ∧ Below w.heap.size w w' := by
  have HS := hide hx
  have HX := hide hX
  have HD := hide hD
  have hm8 := hX.m8
  have t6 : ((n : Int) * 6 != 6 * (n : Int)) = false := by simp; omega
  clear hx hX hD
  have hn8 : n ≤ 8 := by have := of_decide_eq_false t0; omega
  have hk40 : k ≤ 40 := by have := of_decide_eq_false t1; omega
  have H0 := hide h0
  clear h0
  go_enter Tryz.func4, Tryz.ntmps4
  go_wp2_with fail
  refine (rCheckSections_any A n c l _ hR (by omega)).mono ?_
  rintro e w1 ⟨rfl, hb1⟩
  rw [H0.out]
  go_wp2_with fail
  refine (rCheckSignal_any B k d _ xs _ (carryR hN hb1) (by omega)).mono ?_
  rintro e W1 ⟨rfl, hW1⟩
  rw [← hW1]
  clear hW1 W1
  rw [HS.out]
  go_wp2_with fail
  refine (HX.out.a _ (hV.carry (by repeat (first | with_reducible assumption | exact Below.refl _ _ | refine below_next (by with_reducible assumption) ?_))).x).mono ?_
  rintro e w2 ⟨A2, c2, rfl, r2, hb2⟩
  go_wp2_with fail
  refine (given_any A n c l _ (carryR hR (by repeat (first | with_reducible assumption | exact Below.refl _ _ | refine below_next (by with_reducible assumption) ?_))) (by omega)).mono ?_
  rintro e w3 ⟨v3, rfl, o3, hb3⟩
  obtain ⟨A3, c3, rfl, r3⟩ := own_slice o3
  clear o3
  go_wp2_with fail
  refine (Pack_ok A3 n c3 l _ H0.out (by omega) r3).mono ?_
  rintro e w4 ⟨A4, c4, rfl, r4, _, hb4⟩
  go_wp2_with fail
  refine (ints_any A4 (n * 6) c4 (pack l) _ r4 (by omega)).mono ?_
  rintro e w5 ⟨v5, rfl, o5, hb5⟩
  have q5 := own_cap o5
  obtain ⟨A5, c5, rfl, r5⟩ := own_slice o5
  have Q5 := hide (q5 _ _ _ rfl)
  clear o5 q5
  go_wp2_with fail
  refine (HD.out.u A5 c5 _ r5 Q5.out.1 Q5.out.2).mono ?_
  rintro e w6 ⟨A6, c6, rfl, r6, hb6⟩
  go_wp2_with fail
  refine (given_any A n c l _ (carryR hR (by repeat (first | with_reducible assumption | exact Below.refl _ _ | refine below_next (by with_reducible assumption) ?_))) (by omega)).mono ?_
  rintro e w7 ⟨v7, rfl, o7, hb7⟩
  obtain ⟨A7, c7, rfl, r7⟩ := own_slice o7
  clear o7
  go_wp2_with fail
  refine (Print_tot A7 n c7 l _ (by omega) r7 (hV.carry (by repeat (first | with_reducible assumption | exact Below.refl _ _ | refine below_next (by with_reducible assumption) ?_))).x.ten).mono ?_
  rintro e w8 ⟨rfl, hb8⟩
  rw [HD.out.pr, H0.out]
  go_wp2_with fail
  refine (HD.out.a _ (hV.carry (by repeat (first | with_reducible assumption | exact Below.refl _ _ | refine below_next (by with_reducible assumption) ?_))).x).mono ?_
  rintro e w9 ⟨A9, c9, rfl, r9, hb9⟩
  go_wp2_with fail
  refine (told_any A6 n c6 l _ (carryR r6 (by repeat (first | with_reducible assumption | exact Below.refl _ _ | refine below_next (by with_reducible assumption) ?_))) (by omega)).mono ?_
  rintro e w10 ⟨v10, rfl, o10, hb10⟩
  obtain ⟨A10, c10, rfl, r10⟩ := own_slice o10
  clear o10
  go_wp2_with fail
  refine (sameSec_any A10 n c10 l A c _ r10 (carryR hR (by repeat (first | with_reducible assumption | exact Below.refl _ _ | refine below_next (by with_reducible assumption) ?_))) (by omega)).mono ?_
  rintro e w11 ⟨rfl, hb11⟩
  go_wp2_with fail
  refine (told_any A9 n c9 l _ (carryR r9 (by repeat (first | with_reducible assumption | exact Below.refl _ _ | refine below_next (by with_reducible assumption) ?_))) (by omega)).mono ?_
  rintro e w12 ⟨v12, rfl, o12, hb12⟩
  obtain ⟨A12, c12, rfl, r12⟩ := own_slice o12
  clear o12
  go_wp2_with fail
  refine (sameSec_any A12 n c12 l A c _ r12 (carryR hR (by repeat (first | with_reducible assumption | exact Below.refl _ _ | refine below_next (by with_reducible assumption) ?_))) (by omega)).mono ?_
  rintro e w13 ⟨rfl, hb13⟩
  have hbP : Below w.heap.size w w13 := (by repeat (first | with_reducible assumption | exact Below.refl _ _ | refine below_next (by with_reducible assumption) ?_))
  clear r2 r3 r4 r5 r6 r7 r9 r10 r12 hb1 hb2 hb3 hb4 hb5 hb6 hb7 hb8 hb9 hb10 hb11 hb12 hb13 Q5 t6
  go_wp2_with fail
  go_loopw [135] (fun i wr => ∃ j : Nat, j ≤ n ∧ i = .int .i64 j ∧ Below w.heap.size w wr) (fun i _ => n - (intOf i).toNat)
  case atStart => exact ⟨0, by omega, rfl, hbP⟩
  case round =>
    rename World => wr
    obtain ⟨j, hj, rfl, hb⟩ := hrel
    clear hbP
    by_cases hlt : j < n
    · obtain ⟨ad, a, rfl, had, hx, hc⟩ := secs_hit (carryR hR hb) hlt (Nat.le_refl _)
      obtain ⟨i, hi, hij, hli⟩ := near_in H0.out hx
      have hao := (secErr_ok H0.out).2 a (List.mem_of_getElem? hx)
      have HI := hide hi
      obtain ⟨d0, d1, d2, d3, d4, d5⟩ := hc wr (Below.refl _ _)
      clear hx hc hi
      go_upto_region 17 with (fail)
      obtain ⟨wa, ea, hba, hza, kA⟩ := box1 wr #[.int .i64 a.b0, .int .i64 a.b1, .int .i64 a.b2, .int .i64 a.a1, .int .i64 a.a2, .int .i64 a.sh] 50
      rw [← ea]; clear ea d0 d1 d2 d3 d4 d5
      have c0 : ∀ i W, Below wa.heap.size wa W → W.cell? ⟨wr.heap.size, i, none⟩ = (#[.int .i64 a.b0, .int .i64 a.b1, .int .i64 a.b2, .int .i64 a.a1, .int .i64 a.a2, .int .i64 a.sh] : Array Value)[i]? := fun i W h => (carryK kA h).cell i
      have hbwa : Below w.heap.size w wa := (by repeat (first | with_reducible assumption | exact Below.refl _ _ | refine below_next (by with_reducible assumption) ?_))
      have R0 := hide (fun W (h : Below wa.heap.size wa W) => carryR (carryR hR hbwa) h)
      go_region_held3 (fun W => Below wa.heap.size wa W) (first | exact (Below.refl _ _).drew | (with_reducible assumption) | exact below_new ‹Below wa.heap.size wa _› (Nat.le_refl _) _ | (refine below_set (below_set (below_set (below_set (by assumption) (by omega) _) (by omega) _) (by omega) _) (by omega) _)) (first | (go_at_call 7; refine (given_any (some ad) n c l _ (R0.out _ ‹Below wa.heap.size wa _›) (by omega)).mono ?_; rintro e W' ⟨vG, rfl, oG, hbW⟩; obtain ⟨AG, cG, rfl, rG⟩ := own_slice oG; have hS := below_step ‹Below wa.heap.size wa _› hbW (Below.size ‹Below wa.heap.size wa _›); have RG := hide rG; clear rG oG) | (go_at_call 21; refine (Nearest_kee AG n cG l a i _ (by omega) HI.out RG.out).mono ?_; rintro e wb ⟨rfl, hbQ⟩; have hS := below_step ‹Below wa.heap.size wa _› hbQ (Below.size ‹Below wa.heap.size wa _›)))
      have hbb : Below wa.heap.size wa wb := ‹Below wa.heap.size wa wb›
      clear c0 R0 RG hbW hbQ
      (try clear hS); (try clear hS)
      have kB := carryK kA hbb
      have hbwb : Below w.heap.size w wb := (by repeat (first | with_reducible assumption | exact Below.refl _ _ | refine below_next (by with_reducible assumption) ?_))
      clear hba hbb kA hbwa
      obtain ⟨ad2, p, e2, _, hy, hc'⟩ := secs_hit (carryR hR hbwb) (show i < n by omega) (Nat.le_refl _)
      obtain rfl := Option.some.inj e2
      obtain rfl : a = p := by rw [hli] at hy; exact Option.some.inj hy
      have q0 : ∀ x, (over wb.heap.size wb x).cell? (ad.add (i * 6)) = some (.int .i64 a.b0) := fun x => (hc' _ (over_below _ _ _)).1
      have q1 : ∀ x, (over wb.heap.size wb x).cell? ⟨(ad.add (i * 6)).block, (ad.add (i * 6)).off + 1, none⟩ = some (.int .i64 a.b1) := fun x => (hc' _ (over_below _ _ _)).2.1
      have q2 : ∀ x, (over wb.heap.size wb x).cell? ⟨(ad.add (i * 6)).block, (ad.add (i * 6)).off + 2, none⟩ = some (.int .i64 a.b2) := fun x => (hc' _ (over_below _ _ _)).2.2.1
      have q3 : ∀ x, (over wb.heap.size wb x).cell? ⟨(ad.add (i * 6)).block, (ad.add (i * 6)).off + 3, none⟩ = some (.int .i64 a.a1) := fun x => (hc' _ (over_below _ _ _)).2.2.2.1
      have q4 : ∀ x, (over wb.heap.size wb x).cell? ⟨(ad.add (i * 6)).block, (ad.add (i * 6)).off + 4, none⟩ = some (.int .i64 a.a2) := fun x => (hc' _ (over_below _ _ _)).2.2.2.2.1
      have q5 : ∀ x, (over wb.heap.size wb x).cell? ⟨(ad.add (i * 6)).block, (ad.add (i * 6)).off + 5, none⟩ = some (.int .i64 a.sh) := fun x => (hc' _ (over_below _ _ _)).2.2.2.2.2
      have cA := over_blk kB kB.lt
      have hq := neqSec a
      have g1 : ¬ (i : Int) < 0 := by omega
      have g2 : ¬ (j : Int) < (i : Int) := by omega
      have g3 : i < n := by omega
      clear hy hc' e2 hli
      go_upto_region 18 with (fail)
      refine wp_region_over wb.heap.size (by kernel_rfl) (by kernel_rfl) ?_; (repeat (first | go_big_quiet_step (fail) | quiet_step (fail))); refine wpQuiet_nil ?_; rintro W ⟨x, rfl⟩
      have hbY := over_below wb.heap.size wb x
      generalize over wb.heap.size wb x = Y at hbY ⊢
      have kY := carryK kB hbY
      have hbwY : Below w.heap.size w Y := (by repeat (first | with_reducible assumption | exact Below.refl _ _ | refine below_next (by with_reducible assumption) ?_))
      clear q0 q1 q2 q3 q4 q5 cA hq kB hbwb hbY g1 g2 g3
      have cY := kY.cell
      go_upto_region 21 with (fail)
      obtain ⟨wc, ec, hbc, hzc, kC⟩ := box1 Y #[.int .i64 a.b0, .int .i64 a.b1, .int .i64 a.b2, .int .i64 a.a1, .int .i64 a.a2, .int .i64 a.sh] 50
      rw [← ec]; clear ec cY
      have cY := (carryK kY hbc).cell
      have cC := kC.cell
      have fC := kC.frozen
      have hs1 := hao.shl
      have hs2 := hao.shh
      have hu := unit_bd hao
      have eu : wrap64 (2 ^ a.sh.toNat) = a.unit := by unfold Sec.unit at *; rw [IntWalk.wrap64_in _ (by omega)]
      go_upto_region 22 with (fail)
      rw [eu]
      refine fin034 kC (fun we hbe kE => ?_)
      have hbwe : Below w.heap.size w we := (below_next hbwY hbc).trans (hbe.mono (by have := hbwY.size; omega))
      clear eu cY cC fC hs1 hs2 kY hbwY hbc hbe kC
      by_cases hl32 : a.unit ≤ 32767
      · have hK := kee_of hao hl32 HS.out
        have hk0 : Blk we Y.heap.size 50 #[.int .i64 (a.keep).b0, .int .i64 (a.keep).b1, .int .i64 (a.keep).b2, .int .i64 (a.keep).a1, .int .i64 (a.keep).a2, .int .i64 (a.keep).sh] := kE
        have hkb : a.keep.b0 ≤ 32767 := hl32
        clear kE hao hl32 hu
        generalize a.keep = q at hK hk0 hkb
        have HK := hide hK
        have g5 : ¬ (32767 : Int) < q.b0 := by omega
        have cE := hk0.cell
        clear hK hkb
        go_upto_region 23 with (fail)
        have c0 : ∀ i W, Below we.heap.size we W → W.cell? ⟨Y.heap.size, i, none⟩ = (#[.int .i64 q.b0, .int .i64 q.b1, .int .i64 q.b2, .int .i64 q.a1, .int .i64 q.a2, .int .i64 q.sh] : Array Value)[i]? := fun i W h => (carryK hk0 h).cell i
        have R0 := hide (fun W (h : Below we.heap.size we W) => carryR (carryR hN hbwe) h)
        clear cE
        go_region_held3 (fun W => Below we.heap.size we W) (first | exact (Below.refl _ _).drew | (with_reducible assumption) | exact below_new ‹Below we.heap.size we _› (Nat.le_refl _) _ | (refine below_set (below_set (below_set (below_set (by assumption) (by omega) _) (by omega) _) (by omega) _) (by omega) _)) (first | (go_at_call 9; refine (ints_any B k d xs _ (R0.out _ ‹Below we.heap.size we _›) (by omega)).mono ?_; rintro e W' ⟨vG, rfl, oG, hbW⟩; obtain ⟨AG, cG, rfl, rG⟩ := own_slice oG; have hS := below_step ‹Below we.heap.size we _› hbW (Below.size ‹Below we.heap.size we _›); have RG := hide rG; clear rG oG) | (go_at_call 22; refine (Run_kee q AG k cG xs _ HK.out.e0 HS.out (by omega) RG.out).mono ?_; rintro e wf ⟨AR, cR, rfl, rR, hbQ⟩; have RR := hide rR; clear rR; have hS := below_step ‹Below we.heap.size we _› hbQ (Below.size ‹Below we.heap.size we _›)))
        have hbf : Below we.heap.size we wf := ‹Below we.heap.size we wf›
        clear c0 R0 RG hbW hbQ
        (try clear hS); (try clear hS)
        have kF := carryK hk0 hbf
        have hbwf : Below w.heap.size w wf := (by repeat (first | with_reducible assumption | exact Below.refl _ _ | refine below_next (by with_reducible assumption) ?_))
        clear hbf hk0 hbwe
        go_upto_region 24 with (fail)
        have c0 : ∀ i W, Below wf.heap.size wf W → W.cell? ⟨Y.heap.size, i, none⟩ = (#[.int .i64 q.b0, .int .i64 q.b1, .int .i64 q.b2, .int .i64 q.a1, .int .i64 q.a2, .int .i64 q.sh] : Array Value)[i]? := fun i W h => (carryK kF h).cell i
        have R0 := hide (fun W (h : Below wf.heap.size wf W) => carryR (carryR hN hbwf) h)
        go_region_held3 (fun W => Below wf.heap.size wf W) (first | exact (Below.refl _ _).drew | (with_reducible assumption) | exact below_new ‹Below wf.heap.size wf _› (Nat.le_refl _) _ | (refine below_set (below_set (below_set (below_set (by assumption) (by omega) _) (by omega) _) (by omega) _) (by omega) _)) (first | (go_at_call 9; refine (ints_any B k d xs _ (R0.out _ ‹Below wf.heap.size wf _›) (by omega)).mono ?_; rintro e W' ⟨vG, rfl, oG, hbW⟩; obtain ⟨AG, cG, rfl, rG⟩ := own_slice oG; have hS := below_step ‹Below wf.heap.size wf _› hbW (Below.size ‹Below wf.heap.size wf _›); have RG := hide rG; clear rG oG) | (go_at_call 23; refine (Sat_kee q AG k cG xs _ HK.out.e0 HS.out (by omega) RG.out).mono ?_; rintro e wg ⟨rfl, hbQ⟩; have hS := below_step ‹Below wf.heap.size wf _› hbQ (Below.size ‹Below wf.heap.size wf _›)))
        have hbg : Below wf.heap.size wf wg := ‹Below wf.heap.size wf wg›
        clear c0 R0 RG hbW hbQ
        (try clear hS); (try clear hS)
        have kG := carryK kF hbg
        have rR := carryR RR.out hbg
        have hbwg : Below w.heap.size w wg := (by repeat (first | with_reducible assumption | exact Below.refl _ _ | refine below_next (by with_reducible assumption) ?_))
        clear hbg kF hbwf RR
        obtain ⟨N, hNs⟩ : ∃ N, N = q.sats St.zero xs := ⟨_, rfl⟩
        rw [← hNs]
        by_cases hN0 : N = 0
        · have HZ := hide (hNs.symm.trans hN0)
          rw [hN0]
          clear hN0 hNs
          go_upto_region 28 with (fail)
          have c0 : ∀ i W, Below wg.heap.size wg W → W.cell? ⟨Y.heap.size, i, none⟩ = (#[.int .i64 q.b0, .int .i64 q.b1, .int .i64 q.b2, .int .i64 q.a1, .int .i64 q.a2, .int .i64 q.sh] : Array Value)[i]? := fun i W h => (carryK kG h).cell i
          have R0 := hide (fun W (h : Below wg.heap.size wg W) => carryR rR h)
          go_region_held3 (fun W => Below wg.heap.size wg W) (first | exact (Below.refl _ _).drew | (with_reducible assumption) | exact below_new ‹Below wg.heap.size wg _› (Nat.le_refl _) _ | (refine below_set (below_set (below_set (below_set (by assumption) (by omega) _) (by omega) _) (by omega) _) (by omega) _)) (first | (go_at_call 9; refine (ints_any AR k cR (q.outs St.zero xs) _ (R0.out _ ‹Below wg.heap.size wg _›) (by omega)).mono ?_; rintro e W' ⟨vG, rfl, oG, hbW⟩; obtain ⟨AG, cG, rfl, rG⟩ := own_slice oG; have hS := below_step ‹Below wg.heap.size wg _› hbW (Below.size ‹Below wg.heap.size wg _›); have RG := hide rG; clear rG oG) | (go_at_call 24; refine (Undo_kee q AG k cG xs _ HK.out HS.out HZ.out (by omega) RG.out).mono ?_; rintro e wh ⟨AU, cU, rfl, rU, hbQ⟩; have RU := hide rU; clear rU; have hS := below_step ‹Below wg.heap.size wg _› hbQ (Below.size ‹Below wg.heap.size wg _›)))
          have hbh : Below wg.heap.size wg wh := ‹Below wg.heap.size wg wh›
          clear c0 R0 RG hbW hbQ
          (try clear hS); (try clear hS)
          have hbwh : Below w.heap.size w wh := (by repeat (first | with_reducible assumption | exact Below.refl _ _ | refine below_next (by with_reducible assumption) ?_))
          clear hbh kG hbwg rR
          go_wp2_with fail
          refine (same_sl AU k cU xs B d _ RU.out (carryR hN hbwh) (by omega)).mono ?_
          rintro e wi ⟨rfl, hbi⟩
          have hbwi : Below w.heap.size w wi := (by repeat (first | with_reducible assumption | exact Below.refl _ _ | refine below_next (by with_reducible assumption) ?_))
          go_wp2_with fail
          go_roundw
          case rel =>
            first
              | exact ⟨j + 1, by omega, by go_num, hbwi⟩
              | ((repeat (apply Exists.intro)); refine ⟨?_, rfl⟩; exact ⟨j + 1, by omega, by go_num, hbwi⟩)
          case measure => simp [intOf]; omega
        · have hNp := (sats_bd q St.zero xs).1
          rw [← hNs] at hNp
          have g6 : 0 < N := by omega
          clear hNs hN0 hNp
          go_wp2_with fail
          go_roundw
          case rel =>
            first
              | exact ⟨j + 1, by omega, by go_num, hbwg⟩
              | ((repeat (apply Exists.intro)); refine ⟨?_, rfl⟩; exact ⟨j + 1, by omega, by go_num, hbwg⟩)
          case measure => simp [intOf]; omega
      · have g5 : (32767 : Int) < a.unit := by omega
        have cE := kE.cell
        clear hao hl32 hu
        go_wp2_with fail
        go_roundw
        case rel =>
          first
            | exact ⟨j + 1, by omega, by go_num, hbwe⟩
            | ((repeat (apply Exists.intro)); refine ⟨?_, rfl⟩; exact ⟨j + 1, by omega, by go_num, hbwe⟩)
        case measure => simp [intOf]; omega
    · obtain rfl : j = n := by omega
      go_wp2_with fail
      refine (awake_any _ (hV.carry hb).pow (hV.carry hb).x.ten).mono ?_
      rintro e wz ⟨rfl, hbz⟩
      go_wp2_with fail
      go_ret
      exact ⟨rfl, below_step hb hbz hb.size⟩
set_option maxHeartbeats 16000000 in
theorem lawKee_good (A : Option Addr) (n c : Nat) (l : List Sec) (B : Option Addr) (k d : Nat) (xs : List Int) (s : ByteArray) (w : World) (hR : Reads w w.heap.size 6 A n (secs l)) (hN : Reads w w.heap.size 1 B k (ints xs)) (hV : VarsT w) (t0 : decide (8 < (n : Int)) = false) (t1 : decide (40 < (k : Int)) = false) (h0 : secErr l = 0) (hx : sigErr xs = 0) (t2 : decide (300 < (s.size : Int)) = false) (m : Nat) (L : List Sec) (K E : Int) (hX : TxtS s m L K E) (T : ByteArray) (hD : KeD n l T) (hq : E = 0) (hP1 : secErr L = 0) (hP2 : prE L = s) :
    Calls Tryz.prog 4 #[.slice A n c, .slice B k d, .string s] w fun e w' => e = .returned (.bool true) ∧ Below w.heap.size w w' := by
  subst hq
  have HP1 := hide hP1
  have HP2 := hide hP2
  clear hP1 hP2
  have HS := hide hx
  have HX := hide hX
  have HD := hide hD
  have hm8 := hX.m8
  have t6 : ((n : Int) * 6 != 6 * (n : Int)) = false := by simp; omega
  clear hx hX hD
  have hn8 : n ≤ 8 := by have := of_decide_eq_false t0; omega
  have hk40 : k ≤ 40 := by have := of_decide_eq_false t1; omega
  have H0 := hide h0
  clear h0
  go_enter Tryz.func4, Tryz.ntmps4
  go_wp2_with fail
  refine (rCheckSections_any A n c l _ hR (by omega)).mono ?_
  rintro e w1 ⟨rfl, hb1⟩
  rw [H0.out]
  go_wp2_with fail
  refine (rCheckSignal_any B k d _ xs _ (carryR hN hb1) (by omega)).mono ?_
  rintro e W1 ⟨rfl, hW1⟩
  rw [← hW1]
  clear hW1 W1
  rw [HS.out]
  go_wp2_with fail
  refine (HX.out.a _ (hV.carry (by repeat (first | with_reducible assumption | exact Below.refl _ _ | refine below_next (by with_reducible assumption) ?_))).x).mono ?_
  rintro e w2 ⟨A2, c2, rfl, r2, hb2⟩
  go_wp2_with fail
  refine (Print_tot A2 m c2 L _ (by omega) r2 (hV.carry (by repeat (first | with_reducible assumption | exact Below.refl _ _ | refine below_next (by with_reducible assumption) ?_))).x.ten).mono ?_
  rintro e wp ⟨rfl, hbp⟩
  rw [HP2.out, HP1.out]
  go_wp2_with fail
  refine (given_any A n c l _ (carryR hR (by repeat (first | with_reducible assumption | exact Below.refl _ _ | refine below_next (by with_reducible assumption) ?_))) (by omega)).mono ?_
  rintro e w3 ⟨v3, rfl, o3, hb3⟩
  obtain ⟨A3, c3, rfl, r3⟩ := own_slice o3
  clear o3
  go_wp2_with fail
  refine (Pack_ok A3 n c3 l _ H0.out (by omega) r3).mono ?_
  rintro e w4 ⟨A4, c4, rfl, r4, _, hb4⟩
  go_wp2_with fail
  refine (ints_any A4 (n * 6) c4 (pack l) _ r4 (by omega)).mono ?_
  rintro e w5 ⟨v5, rfl, o5, hb5⟩
  have q5 := own_cap o5
  obtain ⟨A5, c5, rfl, r5⟩ := own_slice o5
  have Q5 := hide (q5 _ _ _ rfl)
  clear o5 q5
  go_wp2_with fail
  refine (HD.out.u A5 c5 _ r5 Q5.out.1 Q5.out.2).mono ?_
  rintro e w6 ⟨A6, c6, rfl, r6, hb6⟩
  go_wp2_with fail
  refine (given_any A n c l _ (carryR hR (by repeat (first | with_reducible assumption | exact Below.refl _ _ | refine below_next (by with_reducible assumption) ?_))) (by omega)).mono ?_
  rintro e w7 ⟨v7, rfl, o7, hb7⟩
  obtain ⟨A7, c7, rfl, r7⟩ := own_slice o7
  clear o7
  go_wp2_with fail
  refine (Print_tot A7 n c7 l _ (by omega) r7 (hV.carry (by repeat (first | with_reducible assumption | exact Below.refl _ _ | refine below_next (by with_reducible assumption) ?_))).x.ten).mono ?_
  rintro e w8 ⟨rfl, hb8⟩
  rw [HD.out.pr, H0.out]
  go_wp2_with fail
  refine (HD.out.a _ (hV.carry (by repeat (first | with_reducible assumption | exact Below.refl _ _ | refine below_next (by with_reducible assumption) ?_))).x).mono ?_
  rintro e w9 ⟨A9, c9, rfl, r9, hb9⟩
  go_wp2_with fail
  refine (told_any A6 n c6 l _ (carryR r6 (by repeat (first | with_reducible assumption | exact Below.refl _ _ | refine below_next (by with_reducible assumption) ?_))) (by omega)).mono ?_
  rintro e w10 ⟨v10, rfl, o10, hb10⟩
  obtain ⟨A10, c10, rfl, r10⟩ := own_slice o10
  clear o10
  go_wp2_with fail
  refine (sameSec_any A10 n c10 l A c _ r10 (carryR hR (by repeat (first | with_reducible assumption | exact Below.refl _ _ | refine below_next (by with_reducible assumption) ?_))) (by omega)).mono ?_
  rintro e w11 ⟨rfl, hb11⟩
  go_wp2_with fail
  refine (told_any A9 n c9 l _ (carryR r9 (by repeat (first | with_reducible assumption | exact Below.refl _ _ | refine below_next (by with_reducible assumption) ?_))) (by omega)).mono ?_
  rintro e w12 ⟨v12, rfl, o12, hb12⟩
  obtain ⟨A12, c12, rfl, r12⟩ := own_slice o12
  clear o12
  go_wp2_with fail
  refine (sameSec_any A12 n c12 l A c _ r12 (carryR hR (by repeat (first | with_reducible assumption | exact Below.refl _ _ | refine below_next (by with_reducible assumption) ?_))) (by omega)).mono ?_
  rintro e w13 ⟨rfl, hb13⟩
  have hbP : Below w.heap.size w w13 := (by repeat (first | with_reducible assumption | exact Below.refl _ _ | refine below_next (by with_reducible assumption) ?_))
  clear r2 r3 r4 r5 r6 r7 r9 r10 r12 hb1 hb2 hb3 hb4 hb5 hb6 hb7 hb8 hb9 hb10 hb11 hb12 hb13 Q5 t6
  go_wp2_with fail
  go_loopw [135] (fun i wr => ∃ j : Nat, j ≤ n ∧ i = .int .i64 j ∧ Below w.heap.size w wr) (fun i _ => n - (intOf i).toNat)
  case atStart => exact ⟨0, by omega, rfl, hbP⟩
  case round =>
    rename World => wr
    obtain ⟨j, hj, rfl, hb⟩ := hrel
    clear hbP
    by_cases hlt : j < n
    · obtain ⟨ad, a, rfl, had, hx, hc⟩ := secs_hit (carryR hR hb) hlt (Nat.le_refl _)
      obtain ⟨i, hi, hij, hli⟩ := near_in H0.out hx
      have hao := (secErr_ok H0.out).2 a (List.mem_of_getElem? hx)
      have HI := hide hi
      obtain ⟨d0, d1, d2, d3, d4, d5⟩ := hc wr (Below.refl _ _)
      clear hx hc hi
      go_upto_region 17 with (fail)
      obtain ⟨wa, ea, hba, hza, kA⟩ := box1 wr #[.int .i64 a.b0, .int .i64 a.b1, .int .i64 a.b2, .int .i64 a.a1, .int .i64 a.a2, .int .i64 a.sh] 50
      rw [← ea]; clear ea d0 d1 d2 d3 d4 d5
      have c0 : ∀ i W, Below wa.heap.size wa W → W.cell? ⟨wr.heap.size, i, none⟩ = (#[.int .i64 a.b0, .int .i64 a.b1, .int .i64 a.b2, .int .i64 a.a1, .int .i64 a.a2, .int .i64 a.sh] : Array Value)[i]? := fun i W h => (carryK kA h).cell i
      have hbwa : Below w.heap.size w wa := (by repeat (first | with_reducible assumption | exact Below.refl _ _ | refine below_next (by with_reducible assumption) ?_))
      have R0 := hide (fun W (h : Below wa.heap.size wa W) => carryR (carryR hR hbwa) h)
      go_region_held3 (fun W => Below wa.heap.size wa W) (first | exact (Below.refl _ _).drew | (with_reducible assumption) | exact below_new ‹Below wa.heap.size wa _› (Nat.le_refl _) _ | (refine below_set (below_set (below_set (below_set (by assumption) (by omega) _) (by omega) _) (by omega) _) (by omega) _)) (first | (go_at_call 7; refine (given_any (some ad) n c l _ (R0.out _ ‹Below wa.heap.size wa _›) (by omega)).mono ?_; rintro e W' ⟨vG, rfl, oG, hbW⟩; obtain ⟨AG, cG, rfl, rG⟩ := own_slice oG; have hS := below_step ‹Below wa.heap.size wa _› hbW (Below.size ‹Below wa.heap.size wa _›); have RG := hide rG; clear rG oG) | (go_at_call 21; refine (Nearest_kee AG n cG l a i _ (by omega) HI.out RG.out).mono ?_; rintro e wb ⟨rfl, hbQ⟩; have hS := below_step ‹Below wa.heap.size wa _› hbQ (Below.size ‹Below wa.heap.size wa _›)))
      have hbb : Below wa.heap.size wa wb := ‹Below wa.heap.size wa wb›
      clear c0 R0 RG hbW hbQ
      (try clear hS); (try clear hS)
      have kB := carryK kA hbb
      have hbwb : Below w.heap.size w wb := (by repeat (first | with_reducible assumption | exact Below.refl _ _ | refine below_next (by with_reducible assumption) ?_))
      clear hba hbb kA hbwa
      obtain ⟨ad2, p, e2, _, hy, hc'⟩ := secs_hit (carryR hR hbwb) (show i < n by omega) (Nat.le_refl _)
      obtain rfl := Option.some.inj e2
      obtain rfl : a = p := by rw [hli] at hy; exact Option.some.inj hy
      have q0 : ∀ x, (over wb.heap.size wb x).cell? (ad.add (i * 6)) = some (.int .i64 a.b0) := fun x => (hc' _ (over_below _ _ _)).1
      have q1 : ∀ x, (over wb.heap.size wb x).cell? ⟨(ad.add (i * 6)).block, (ad.add (i * 6)).off + 1, none⟩ = some (.int .i64 a.b1) := fun x => (hc' _ (over_below _ _ _)).2.1
      have q2 : ∀ x, (over wb.heap.size wb x).cell? ⟨(ad.add (i * 6)).block, (ad.add (i * 6)).off + 2, none⟩ = some (.int .i64 a.b2) := fun x => (hc' _ (over_below _ _ _)).2.2.1
      have q3 : ∀ x, (over wb.heap.size wb x).cell? ⟨(ad.add (i * 6)).block, (ad.add (i * 6)).off + 3, none⟩ = some (.int .i64 a.a1) := fun x => (hc' _ (over_below _ _ _)).2.2.2.1
      have q4 : ∀ x, (over wb.heap.size wb x).cell? ⟨(ad.add (i * 6)).block, (ad.add (i * 6)).off + 4, none⟩ = some (.int .i64 a.a2) := fun x => (hc' _ (over_below _ _ _)).2.2.2.2.1
      have q5 : ∀ x, (over wb.heap.size wb x).cell? ⟨(ad.add (i * 6)).block, (ad.add (i * 6)).off + 5, none⟩ = some (.int .i64 a.sh) := fun x => (hc' _ (over_below _ _ _)).2.2.2.2.2
      have cA := over_blk kB kB.lt
      have hq := neqSec a
      have g1 : ¬ (i : Int) < 0 := by omega
      have g2 : ¬ (j : Int) < (i : Int) := by omega
      have g3 : i < n := by omega
      clear hy hc' e2 hli
      go_upto_region 18 with (fail)
      refine wp_region_over wb.heap.size (by kernel_rfl) (by kernel_rfl) ?_; (repeat (first | go_big_quiet_step (fail) | quiet_step (fail))); refine wpQuiet_nil ?_; rintro W ⟨x, rfl⟩
      have hbY := over_below wb.heap.size wb x
      generalize over wb.heap.size wb x = Y at hbY ⊢
      have kY := carryK kB hbY
      have hbwY : Below w.heap.size w Y := (by repeat (first | with_reducible assumption | exact Below.refl _ _ | refine below_next (by with_reducible assumption) ?_))
      clear q0 q1 q2 q3 q4 q5 cA hq kB hbwb hbY g1 g2 g3
      have cY := kY.cell
      go_upto_region 21 with (fail)
      obtain ⟨wc, ec, hbc, hzc, kC⟩ := box1 Y #[.int .i64 a.b0, .int .i64 a.b1, .int .i64 a.b2, .int .i64 a.a1, .int .i64 a.a2, .int .i64 a.sh] 50
      rw [← ec]; clear ec cY
      have cY := (carryK kY hbc).cell
      have cC := kC.cell
      have fC := kC.frozen
      have hs1 := hao.shl
      have hs2 := hao.shh
      have hu := unit_bd hao
      have eu : wrap64 (2 ^ a.sh.toNat) = a.unit := by unfold Sec.unit at *; rw [IntWalk.wrap64_in _ (by omega)]
      go_upto_region 22 with (fail)
      rw [eu]
      refine fin034 kC (fun we hbe kE => ?_)
      have hbwe : Below w.heap.size w we := (below_next hbwY hbc).trans (hbe.mono (by have := hbwY.size; omega))
      clear eu cY cC fC hs1 hs2 kY hbwY hbc hbe kC
      by_cases hl32 : a.unit ≤ 32767
      · have hK := kee_of hao hl32 HS.out
        have hk0 : Blk we Y.heap.size 50 #[.int .i64 (a.keep).b0, .int .i64 (a.keep).b1, .int .i64 (a.keep).b2, .int .i64 (a.keep).a1, .int .i64 (a.keep).a2, .int .i64 (a.keep).sh] := kE
        have hkb : a.keep.b0 ≤ 32767 := hl32
        clear kE hao hl32 hu
        generalize a.keep = q at hK hk0 hkb
        have HK := hide hK
        have g5 : ¬ (32767 : Int) < q.b0 := by omega
        have cE := hk0.cell
        clear hK hkb
        go_upto_region 23 with (fail)
        have c0 : ∀ i W, Below we.heap.size we W → W.cell? ⟨Y.heap.size, i, none⟩ = (#[.int .i64 q.b0, .int .i64 q.b1, .int .i64 q.b2, .int .i64 q.a1, .int .i64 q.a2, .int .i64 q.sh] : Array Value)[i]? := fun i W h => (carryK hk0 h).cell i
        have R0 := hide (fun W (h : Below we.heap.size we W) => carryR (carryR hN hbwe) h)
        clear cE
        go_region_held3 (fun W => Below we.heap.size we W) (first | exact (Below.refl _ _).drew | (with_reducible assumption) | exact below_new ‹Below we.heap.size we _› (Nat.le_refl _) _ | (refine below_set (below_set (below_set (below_set (by assumption) (by omega) _) (by omega) _) (by omega) _) (by omega) _)) (first | (go_at_call 9; refine (ints_any B k d xs _ (R0.out _ ‹Below we.heap.size we _›) (by omega)).mono ?_; rintro e W' ⟨vG, rfl, oG, hbW⟩; obtain ⟨AG, cG, rfl, rG⟩ := own_slice oG; have hS := below_step ‹Below we.heap.size we _› hbW (Below.size ‹Below we.heap.size we _›); have RG := hide rG; clear rG oG) | (go_at_call 22; refine (Run_kee q AG k cG xs _ HK.out.e0 HS.out (by omega) RG.out).mono ?_; rintro e wf ⟨AR, cR, rfl, rR, hbQ⟩; have RR := hide rR; clear rR; have hS := below_step ‹Below we.heap.size we _› hbQ (Below.size ‹Below we.heap.size we _›)))
        have hbf : Below we.heap.size we wf := ‹Below we.heap.size we wf›
        clear c0 R0 RG hbW hbQ
        (try clear hS); (try clear hS)
        have kF := carryK hk0 hbf
        have hbwf : Below w.heap.size w wf := (by repeat (first | with_reducible assumption | exact Below.refl _ _ | refine below_next (by with_reducible assumption) ?_))
        clear hbf hk0 hbwe
        go_upto_region 24 with (fail)
        have c0 : ∀ i W, Below wf.heap.size wf W → W.cell? ⟨Y.heap.size, i, none⟩ = (#[.int .i64 q.b0, .int .i64 q.b1, .int .i64 q.b2, .int .i64 q.a1, .int .i64 q.a2, .int .i64 q.sh] : Array Value)[i]? := fun i W h => (carryK kF h).cell i
        have R0 := hide (fun W (h : Below wf.heap.size wf W) => carryR (carryR hN hbwf) h)
        go_region_held3 (fun W => Below wf.heap.size wf W) (first | exact (Below.refl _ _).drew | (with_reducible assumption) | exact below_new ‹Below wf.heap.size wf _› (Nat.le_refl _) _ | (refine below_set (below_set (below_set (below_set (by assumption) (by omega) _) (by omega) _) (by omega) _) (by omega) _)) (first | (go_at_call 9; refine (ints_any B k d xs _ (R0.out _ ‹Below wf.heap.size wf _›) (by omega)).mono ?_; rintro e W' ⟨vG, rfl, oG, hbW⟩; obtain ⟨AG, cG, rfl, rG⟩ := own_slice oG; have hS := below_step ‹Below wf.heap.size wf _› hbW (Below.size ‹Below wf.heap.size wf _›); have RG := hide rG; clear rG oG) | (go_at_call 23; refine (Sat_kee q AG k cG xs _ HK.out.e0 HS.out (by omega) RG.out).mono ?_; rintro e wg ⟨rfl, hbQ⟩; have hS := below_step ‹Below wf.heap.size wf _› hbQ (Below.size ‹Below wf.heap.size wf _›)))
        have hbg : Below wf.heap.size wf wg := ‹Below wf.heap.size wf wg›
        clear c0 R0 RG hbW hbQ
        (try clear hS); (try clear hS)
        have kG := carryK kF hbg
        have rR := carryR RR.out hbg
        have hbwg : Below w.heap.size w wg := (by repeat (first | with_reducible assumption | exact Below.refl _ _ | refine below_next (by with_reducible assumption) ?_))
        clear hbg kF hbwf RR
        obtain ⟨N, hNs⟩ : ∃ N, N = q.sats St.zero xs := ⟨_, rfl⟩
        rw [← hNs]
        by_cases hN0 : N = 0
        · have HZ := hide (hNs.symm.trans hN0)
          rw [hN0]
          clear hN0 hNs
          go_upto_region 28 with (fail)
          have c0 : ∀ i W, Below wg.heap.size wg W → W.cell? ⟨Y.heap.size, i, none⟩ = (#[.int .i64 q.b0, .int .i64 q.b1, .int .i64 q.b2, .int .i64 q.a1, .int .i64 q.a2, .int .i64 q.sh] : Array Value)[i]? := fun i W h => (carryK kG h).cell i
          have R0 := hide (fun W (h : Below wg.heap.size wg W) => carryR rR h)
          go_region_held3 (fun W => Below wg.heap.size wg W) (first | exact (Below.refl _ _).drew | (with_reducible assumption) | exact below_new ‹Below wg.heap.size wg _› (Nat.le_refl _) _ | (refine below_set (below_set (below_set (below_set (by assumption) (by omega) _) (by omega) _) (by omega) _) (by omega) _)) (first | (go_at_call 9; refine (ints_any AR k cR (q.outs St.zero xs) _ (R0.out _ ‹Below wg.heap.size wg _›) (by omega)).mono ?_; rintro e W' ⟨vG, rfl, oG, hbW⟩; obtain ⟨AG, cG, rfl, rG⟩ := own_slice oG; have hS := below_step ‹Below wg.heap.size wg _› hbW (Below.size ‹Below wg.heap.size wg _›); have RG := hide rG; clear rG oG) | (go_at_call 24; refine (Undo_kee q AG k cG xs _ HK.out HS.out HZ.out (by omega) RG.out).mono ?_; rintro e wh ⟨AU, cU, rfl, rU, hbQ⟩; have RU := hide rU; clear rU; have hS := below_step ‹Below wg.heap.size wg _› hbQ (Below.size ‹Below wg.heap.size wg _›)))
          have hbh : Below wg.heap.size wg wh := ‹Below wg.heap.size wg wh›
          clear c0 R0 RG hbW hbQ
          (try clear hS); (try clear hS)
          have hbwh : Below w.heap.size w wh := (by repeat (first | with_reducible assumption | exact Below.refl _ _ | refine below_next (by with_reducible assumption) ?_))
          clear hbh kG hbwg rR
          go_wp2_with fail
          refine (same_sl AU k cU xs B d _ RU.out (carryR hN hbwh) (by omega)).mono ?_
          rintro e wi ⟨rfl, hbi⟩
          have hbwi : Below w.heap.size w wi := (by repeat (first | with_reducible assumption | exact Below.refl _ _ | refine below_next (by with_reducible assumption) ?_))
          go_wp2_with fail
          go_roundw
          case rel =>
            first
              | exact ⟨j + 1, by omega, by go_num, hbwi⟩
              | ((repeat (apply Exists.intro)); refine ⟨?_, rfl⟩; exact ⟨j + 1, by omega, by go_num, hbwi⟩)
          case measure => simp [intOf]; omega
        · have hNp := (sats_bd q St.zero xs).1
          rw [← hNs] at hNp
          have g6 : 0 < N := by omega
          clear hNs hN0 hNp
          go_wp2_with fail
          go_roundw
          case rel =>
            first
              | exact ⟨j + 1, by omega, by go_num, hbwg⟩
              | ((repeat (apply Exists.intro)); refine ⟨?_, rfl⟩; exact ⟨j + 1, by omega, by go_num, hbwg⟩)
          case measure => simp [intOf]; omega
      · have g5 : (32767 : Int) < a.unit := by omega
        have cE := kE.cell
        clear hao hl32 hu
        go_wp2_with fail
        go_roundw
        case rel =>
          first
            | exact ⟨j + 1, by omega, by go_num, hbwe⟩
            | ((repeat (apply Exists.intro)); refine ⟨?_, rfl⟩; exact ⟨j + 1, by omega, by go_num, hbwe⟩)
        case measure => simp [intOf]; omega
    · obtain rfl : j = n := by omega
      go_wp2_with fail
      refine (awake_any _ (hV.carry hb).pow (hV.carry hb).x.ten).mono ?_
      rintro e wz ⟨rfl, hbz⟩
      go_wp2_with fail
      go_ret
      exact ⟨rfl, below_step hb hbz hb.size⟩
set_option maxHeartbeats 16000000 in
theorem lawKee_any (A : Option Addr) (n c : Nat) (l : List Sec) (B : Option Addr) (k d : Nat) (xs : List Int) (s : ByteArray) (w : World) (hR : Reads w w.heap.size 6 A n (secs l)) (hN : Reads w w.heap.size 1 B k (ints xs)) (hV : VarsT w)  :
    Calls Tryz.prog 4 #[.slice A n c, .slice B k d, .string s] w fun e w' => e = .returned (.bool true) ∧ Below w.heap.size w w' := by
  have hl := secs_reads_len hR
  cases t0 : decide (8 < (n : Int)) with
  | true => exact lawKee_many1 A n c l B k d xs s w hR hN hV t0
  | false =>
    cases t1 : decide (40 < (k : Int)) with
    | true => exact lawKee_many2 A n c l B k d xs s w hR hN hV t0 t1
    | false =>
      by_cases h0 : secErr l = 0
      · by_cases hx : sigErr xs = 0
        · cases t2 : decide (300 < (s.size : Int)) with
          | true => exact lawKee_long A n c l B k d xs s w hR hN hV t0 t1 h0 hx t2
          | false =>
            have hD := keD_of h0
            rw [hl] at hD
            cases tq : ((parS s.data.toList).2.2 == 0) with
            | false => exact lawKee_bad A n c l B k d xs s w hR hN hV t0 t1 h0 hx t2 _ _ _ _ (txtS_of s) _ hD tq
            | true =>
              have hq : (parS s.data.toList).2.2 = 0 := by simpa using tq
              obtain ⟨p1, p2⟩ := parS_back hq
              have p3 : prE (parS s.data.toList).1 = s := by
                unfold prE
                rw [if_pos p1]
                exact bytes_ext (by rw [List.toList_toArray, p2])
              exact lawKee_good A n c l B k d xs s w hR hN hV t0 t1 h0 hx t2 _ _ _ _ (txtS_of s) _ hD hq p1 p3
        · exact lawKee_err2 A n c l B k d xs s w hR hN hV t0 t1 h0 (by simpa using hx)
      · exact lawKee_err1 A n c l B k d xs s w hR hN hV t0 t1 (by simpa using h0)
end Go.Proofs.YtpcmflfinlkeiaaGreatDoor
