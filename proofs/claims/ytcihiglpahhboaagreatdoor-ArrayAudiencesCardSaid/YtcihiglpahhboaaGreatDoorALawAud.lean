/- The law ArrayAudiences: for all arguments it returns true. -/
import Derived.Test.YtcihiglpahhboaaGreatDoorAAwk
import Derived.Test.YtcihiglpahhboaaGreatDoorARAud
import Derived.Test.YtcihiglpahhboaaGreatDoorAScx
import Derived.Test.YtcihiglpahhboaaGreatDoorALawG
import Derived.Deep.DeepCutAuto
namespace Go.Proofs.YtcihiglpahhboaaGreatDoor
open Go.RowKit Go.Shelf
set_option maxRecDepth 100000
theorem stO_bad {l : List Src} {d : Int} (h : prE l d ≠ 0) : stO l d = [] := by unfold stO; rw [if_neg h]
theorem stO_len (l : List Src) (d : Int) : (stO l d).length ≤ 16 := by
  unfold stO
  split
  · rw [List.length_map]; exact (prE_ok ‹_›).1.len
  · simp
theorem beO_bad {l : List Src} {a : Au} (h : beE l a ≠ 0) : beO l a = ([], 0) := by unfold beO; rw [if_neg h]
theorem beO_len (l : List Src) (a : Au) : (beO l a).1.length ≤ 16 := by
  unfold beO
  split
  · have := (beE_ok ‹_›).2.1
    show (ph l _).length ≤ 16
    rw [ph_len]; omega
  · simp
/-- The error of the sources, or of their number. -/
def midE (l : List Src) (m : Nat) : Int := if lstErr l = 0 ∧ 6 < m then 23 else lstErr l
theorem midE_is {l : List Src} {m : Nat} (hm : l.length = m) (a : Au) : fnz [midE l m, auE a] = beE l a := by
  unfold beE midE
  subst hm
  by_cases h0 : lstErr l = 0
  · by_cases h6 : 6 < l.length <;> simp [fnz, h0, h6]
  · simp [fnz, h0]
set_option maxHeartbeats 8000000 in
theorem lawAud_any (A : Option Addr) (m c : Nat) (l : List Src) (a : Au) (d : Int) (w : World) (hR : Reads w w.heap.size 4 A m (srcs l)) (hV : Vr w) (hT : Tens w) :
    Calls Tryz.prog 6 #[.slice A m c, .agg #[.int .i64 a.a0, .int .i64 a.a1, .int .i64 a.a2, .int .i64 a.a3, .int .i64 a.a4, .int .i64 a.a5, .int .i64 a.a6, .int .i64 a.a7], .int .i64 d] w fun e w' => e = .returned (.bool true) ∧ Below w.heap.size w w' := by
  have HL := hide (srcs_reads_len hR)
  have HBE := hide (midE_is HL.out a)
  by_cases hs : shrt m 4 = true
  · have hm : m ≤ 17 := by unfold shrt at hs; simp at hs; omega
    have HSH := hide hs
    clear hs
    go_enter Tryz.func6, Tryz.ntmps6
    go_upto_region 1 with (fail)
    obtain ⟨w1, e1, hb1, hz1, kA⟩ := box1 w #[.int .i64 a.a0, .int .i64 a.a1, .int .i64 a.a2, .int .i64 a.a3, .int .i64 a.a4, .int .i64 a.a5, .int .i64 a.a6, .int .i64 a.a7] 64
    rw [← e1]; clear e1
    go_wp2_with fail
    refine (awake_any _ (hV.carry hb1) (tens_below hT hb1 hT.1)).mono ?_
    rintro e w2 ⟨rfl, hb2⟩
    go_upto_region 3 with (go_at_call 18; refine (short_any _ _ _ _ _).mono ?_; rintro e W' ⟨rfl, rfl⟩; rw [HSH.out])
    go_wp2_with fail
    refine (own_any A m c l _ (carry hR (by repeat (first | with_reducible assumption | exact Below.refl _ _ | refine below_next (by with_reducible assumption) ?_))) (by omega)).mono ?_
    rintro e w3 ⟨A3, c3, rfl, hR3, hb3⟩
    go_wp2_with fail
    refine (Steer_any A3 m c3 l d _ hR3 (hV.carry (by repeat (first | with_reducible assumption | exact Below.refl _ _ | refine below_next (by with_reducible assumption) ?_))) (by omega)).mono ?_
    rintro e w4 ⟨A4, m4, c4, rfl, hR4, hb4⟩
    have hRq := carry hR (w' := w4) (by repeat (first | with_reducible assumption | exact Below.refl _ _ | refine below_next (by with_reducible assumption) ?_))
    have kAq := carryK kA (w' := w4) (by repeat (first | with_reducible assumption | exact Below.refl _ _ | refine below_next (by with_reducible assumption) ?_))
    have hVq := hV.carry (show Below w.heap.size w w4 from (by repeat (first | with_reducible assumption | exact Below.refl _ _ | refine below_next (by with_reducible assumption) ?_)))
    go_upto_region 4 with (fail)
    go_cut [9, 10] from 42 to 48 (fun sa sb wx => sa = .int .i64 (scV l a) ∧ sb = .int .i64 (scE l a) ∧ Below w4.heap.size w4 wx)
    case first =>
      have cA := fun i W (h : Below w4.heap.size w4 W) => (carryK kAq h).cell i
      go_region_held3 (fun W => Below w4.heap.size w4 W) (first | exact (Below.refl _ _).drew | (with_reducible assumption) | exact below_new ‹Below w4.heap.size w4 _› (Nat.le_refl _) _ | (refine below_set (below_set (below_set (below_set (by assumption) (by omega) _) (by omega) _) (by omega) _) (by omega) _)) (first | (go_at_call 20; refine (own_any A m c l _ (carry hRq ‹Below w4.heap.size w4 _›) (by omega)).mono ?_; rintro e W1 ⟨A1, c1, rfl, hR1, hbW⟩; have hS := below_step ‹Below w4.heap.size w4 _› hbW (Below.size ‹Below w4.heap.size w4 _›)) | (go_at_call 39; refine (Score_any A1 m c1 l a _ hR1 (hVq.carry ‹Below w4.heap.size w4 _›) (by omega)).mono ?_; rintro e W2 ⟨rfl, hbY⟩; have hS2 := below_step ‹Below w4.heap.size w4 _› hbY (Below.size ‹Below w4.heap.size w4 _›)))
      all_goals
        (try go_wp2_with fail)
        go_meet
        exact ⟨rfl, rfl, by with_reducible assumption⟩
    case rest =>
    obtain ⟨rfl, rfl, hb6⟩ := hcut
    rename World => w6
    have hRr := carry hRq hb6
    have kAr := carryK kAq hb6
    have hVr := hVq.carry hb6
    go_upto_region 5 with (fail)
    go_cut [11, 12, 13] from 49 to 56 (fun sa sb sc wx => ∃ (Ax : Option Addr) (nx cx : Nat), sa = .slice Ax nx cx ∧ sb = .int .i64 (beO l a).2 ∧ sc = .int .i64 (beE l a) ∧ Reads wx wx.heap.size 4 Ax nx (srcs (beO l a).1) ∧ Below w6.heap.size w6 wx)
    case first =>
      have cA := fun i W (h : Below w6.heap.size w6 W) => (carryK kAr h).cell i
      go_region_held3 (fun W => Below w6.heap.size w6 W) (first | exact (Below.refl _ _).drew | (with_reducible assumption) | exact below_new ‹Below w6.heap.size w6 _› (Nat.le_refl _) _ | (refine below_set (below_set (below_set (below_set (by assumption) (by omega) _) (by omega) _) (by omega) _) (by omega) _)) (first | (go_at_call 20; refine (own_any A m c l _ (carry hRr ‹Below w6.heap.size w6 _›) (by omega)).mono ?_; rintro e W1 ⟨A1, c1, rfl, hR1, hbW⟩; have hS := below_step ‹Below w6.heap.size w6 _› hbW (Below.size ‹Below w6.heap.size w6 _›)) | (go_at_call 40; refine (Best_any A1 m c1 l a _ hR1 (hVr.carry ‹Below w6.heap.size w6 _›) (by omega)).mono ?_; rintro e W2 ⟨Ay, ny, cy, rfl, hRy, hbY⟩; have hS2 := below_step ‹Below w6.heap.size w6 _› hbY (Below.size ‹Below w6.heap.size w6 _›)))
      all_goals
        (try go_wp2_with fail)
        go_meet
        exact ⟨Ay, ny, cy, rfl, rfl, rfl, hRy, by with_reducible assumption⟩
    case rest =>
    obtain ⟨A8, m8, c8, rfl, rfl, rfl, hR8, hb8⟩ := hcut
    rename World => w8
    have hRs := carry hRr hb8
    have kAs := carryK kAr hb8
    go_wp2_with fail
    refine (rCheckSources_any A m c l _ hRs (by omega)).mono ?_
    rintro e w9 ⟨rfl, hb9⟩
    have kA9 := carryK kAs hb9
    go_upto_region 7 with (fail)
    go_cut [15, 16, 17] from 59 to 69 (fun sa sb sc wx => sa = .int .i64 (fnz [lstErr l, rng d 0 7]) ∧ sb = .int .i64 (fnz [lstErr l, auE a]) ∧ sc = .int .i64 (lstErr l) ∧ Below w9.heap.size w9 wx)
    case first =>
      have cA := fun i W (h : Below w9.heap.size w9 W) => (carryK kA9 h).cell i
      go_region_held3 (fun W => Below w9.heap.size w9 W) (first | exact (Below.refl _ _).drew | (with_reducible assumption) | exact below_new ‹Below w9.heap.size w9 _› (Nat.le_refl _) _ | (refine below_set (below_set (below_set (below_set (by assumption) (by omega) _) (by omega) _) (by omega) _) (by omega) _)) (first | (go_at_call 22; (first | (with_reducible (refine (rFirst_any _ _ _ _ _ _ (reads2E _ _ _ _ _ (by simp)) (by omega)).mono ?_)) | (with_reducible (refine (rFirst_any _ _ _ _ _ _ (Reads.drew (reads2E _ _ _ _ _ (by simp))) (by omega)).mono ?_))); rintro e W' ⟨rfl, rfl⟩) | (go_at_call 41; refine (rCheckDirection_any _ _).mono ?_; rintro e W' ⟨rfl, rfl⟩) | (go_at_call 42; refine (rCheckAudience_any a _).mono ?_; rintro e W1 ⟨rfl, hbW⟩; have hS := below_step ‹Below w9.heap.size w9 _› hbW (Below.size ‹Below w9.heap.size w9 _›)))
      all_goals
        (try go_wp2_with fail)
        go_meet
        exact ⟨rfl, rfl, rfl, by with_reducible assumption⟩
    case rest =>
    obtain ⟨rfl, rfl, rfl, hb12⟩ := hcut
    rename World => w12
    have hRA := carry hRs (w' := w12) (by repeat (first | with_reducible assumption | exact Below.refl _ _ | refine below_next (by with_reducible assumption) ?_))
    have R4 := carry hR4 (w' := w12) (by repeat (first | with_reducible assumption | exact Below.refl _ _ | refine below_next (by with_reducible assumption) ?_))
    have R8 := carry hR8 (w' := w12) (by repeat (first | with_reducible assumption | exact Below.refl _ _ | refine below_next (by with_reducible assumption) ?_))
    have k12 := carryK kA9 hb12
    have hb012 : Below w.heap.size w w12 := (by repeat (first | with_reducible assumption | exact Below.refl _ _ | refine below_next (by with_reducible assumption) ?_))
    clear hb1 hb2 hb3 hb4 hb6 hb8 hb9 hb12 hR3 hR4 hR8 kA hz1 hV hT hR hRq kAq hVq hRr kAr hVr hRs kAs kA9
    go_upto_region 8 with (fail)
    go_cut [76] from 70 to 75 (fun s76 wx => ∃ t : Bool, s76 = .bool t ∧ Hid (t = decide (lstErr l = 0 ∧ 6 < m)) ∧ w12 = wx)
    case first =>
      by_cases h0 : lstErr l = 0
      · have t0 : (lstErr l == 0) = true := by rw [h0]; rfl
        by_cases h6 : 6 < m
        · have t1 : decide ((6 : Int) < (m : Int)) = true := by simp; omega
          have H : Hid (true = decide (lstErr l = 0 ∧ 6 < m)) := (decide_eq_true ⟨h0, h6⟩).symm
          clear h0 h6
          go_wp2_with fail
          go_meet
          exact ⟨true, rfl, H, rfl⟩
        · have t1 : decide ((6 : Int) < (m : Int)) = false := by simp; omega
          have H : Hid (false = decide (lstErr l = 0 ∧ 6 < m)) := (decide_eq_false fun h => h6 h.2).symm
          clear h0 h6
          go_wp2_with fail
          go_meet
          exact ⟨false, rfl, H, rfl⟩
      · have t0 : (lstErr l == 0) = false := by simpa using h0
        have H : Hid (false = decide (lstErr l = 0 ∧ 6 < m)) := (decide_eq_false fun h => h0 h.1).symm
        clear h0
        go_wp2_with fail
        go_meet
        exact ⟨false, rfl, H, rfl⟩
    case rest =>
      obtain ⟨t, rfl, HD, rfl⟩ := hcut
      go_upto_if 76 with (fail)
      go_cut [17] from 72 to 76 (fun s17 wx => s17 = .int .i64 (midE l m) ∧ w12 = wx)
      case first =>
        cases t
        · have H : Hid (midE l m = lstErr l) := by show _ = _; unfold midE; rw [if_neg (of_decide_eq_false HD.out.symm)]
          clear HD
          go_wp2_with fail
          go_meet
          exact ⟨by rw [H.out], rfl⟩
        · have H : Hid (midE l m = 23) := by show _ = _; unfold midE; rw [if_pos (of_decide_eq_true HD.out.symm)]
          clear HD
          go_wp2_with fail
          go_meet
          exact ⟨by rw [H.out], rfl⟩
      case rest =>
        obtain ⟨rfl, rfl⟩ := hcut
        have cA := k12.cell
        go_wp2_with fail
        clear cA
        refine (rCheckAudience_any a _).mono ?_
        rintro e w13 ⟨rfl, hb13⟩
        go_upto_region 11 with ((go_at_call 22; (first | (with_reducible (refine (rFirst_any _ _ _ _ _ _ (reads2 _ _ _ _) (by omega)).mono ?_)) | (with_reducible (refine (rFirst_any _ _ _ _ _ _ (Reads.drew (reads2 _ _ _ _)) (by omega)).mono ?_))); rintro e W' ⟨rfl, rfl⟩))
        obtain ⟨w14, e14, hb14, hz14, kx1⟩ := box1 w13 #[.int .i64 (midE l m), .int .i64 (auE a)] 3
        rw [← e14, HBE.out]; clear e14 kx1
        go_upto_if 83 with (fail)
        go_cut [18] from 82 to 86 (fun s18 wx => ∃ (Ax : Option Addr) (nx cx : Nat), s18 = .slice Ax nx cx ∧ Reads wx wx.heap.size 4 Ax nx (srcs (stO l d)) ∧ Below w14.heap.size w14 wx)
        case first =>
          by_cases h0 : prE l d = 0
          · obtain ⟨hok, k, hk, rfl⟩ := prE_ok h0
            have HO := hide hok
            have HQ : Hid (stO l (k : Int) = l.map (str k)) := by show _ = _; unfold stO; rw [if_pos h0]; rfl
            have t0 : (fnz [lstErr l, rng (k : Int) 0 7] == 0) = true := by rw [show fnz [lstErr l, rng (k : Int) 0 7] = 0 from h0]; rfl
            clear h0 hok
            go_wp2_with fail
            refine (rSteer_any A m c l k _ hk HO.out (carry hRA (by repeat (first | with_reducible assumption | exact Below.refl _ _ | refine below_next (by with_reducible assumption) ?_)))).mono ?_
            rintro e w15 ⟨v, rfl, ho, hb15⟩
            obtain ⟨A', c', rfl, hr⟩ := own_slice ho
            clear ho
            go_wp2_with fail
            go_meet
            exact ⟨A', m, c', rfl, by rw [HQ.out]; exact hr, hb15⟩
          · have t0 : (fnz [lstErr l, rng d 0 7] == 0) = false := by simpa using (show ¬ fnz [lstErr l, rng d 0 7] = 0 from h0)
            have HQ := hide (stO_bad h0)
            clear h0
            go_wp2_with fail
            go_meet
            exact ⟨none, 0, 0, rfl, by rw [HQ.out]; exact Reads.none_, Below.refl _ _⟩
        case rest =>
          obtain ⟨A15, m15, c15, rfl, hR15, hb15⟩ := hcut
          rename World => w15
          go_upto_if 88 with (fail)
          go_cut [20] from 87 to 91 (fun s20 wx => s20 = .int .i64 (scV l a) ∧ Below w15.heap.size w15 wx)
          case first =>
            by_cases h0 : scE l a = 0
            · obtain ⟨hok, hau⟩ := scE_ok h0
              have HO := hide hok
              have HA := hide (auE_ok hau)
              have HQ : Hid (scV l a = scr l a.l) := by show _ = _; unfold scV; rw [if_pos h0]
              have t0 : (fnz [lstErr l, auE a] == 0) = true := by rw [show fnz [lstErr l, auE a] = 0 from h0]; rfl
              have cA := (carryK k12 (w' := w15) (by repeat (first | with_reducible assumption | exact Below.refl _ _ | refine below_next (by with_reducible assumption) ?_))).cell
              clear h0 hok hau
              go_wp2_with fail
              clear cA
              refine (rScore_any A m c l a _ HO.out HA.out (carry hRA (by repeat (first | with_reducible assumption | exact Below.refl _ _ | refine below_next (by with_reducible assumption) ?_)))).mono ?_
              rintro e w16 ⟨rfl, hb16⟩
              go_wp2_with fail
              go_meet
              exact ⟨by rw [HQ.out], hb16⟩
            · have t0 : (fnz [lstErr l, auE a] == 0) = false := by simpa using (show ¬ fnz [lstErr l, auE a] = 0 from h0)
              have HQ := hide (scV_bad h0)
              clear h0
              go_wp2_with fail
              go_meet
              exact ⟨by rw [HQ.out], Below.refl _ _⟩
          case rest =>
            obtain ⟨rfl, hb16⟩ := hcut
            rename World => w16
            go_upto_if 93 with (fail)
            go_cut [19, 21] from 92 to 99 (fun s19 s21 wx => ∃ (Ax : Option Addr) (nx cx : Nat), s19 = .slice Ax nx cx ∧ s21 = .int .i64 (beO l a).2 ∧ Reads wx wx.heap.size 4 Ax nx (srcs (beO l a).1) ∧ Below w16.heap.size w16 wx)
            case first =>
              by_cases h0 : beE l a = 0
              · obtain ⟨hok, h6, hau⟩ := beE_ok h0
                rw [HL.out] at h6
                have HO := hide hok
                have HA := hide (auE_ok hau)
                have HQ : Hid (beO l a = (bst l a.l, scr (bst l a.l) a.l)) := by show _ = _; unfold beO; rw [if_pos h0]
                have t0 : (beE l a == 0) = true := by rw [h0]; rfl
                have cA := (carryK k12 (w' := w16) (by repeat (first | with_reducible assumption | exact Below.refl _ _ | refine below_next (by with_reducible assumption) ?_))).cell
                clear h0 hok hau
                go_wp2_with fail
                all_goals
                  clear cA
                  refine (rBest_any A m c l a _ HO.out h6 HA.out (carry hRA (by repeat (first | with_reducible assumption | exact Below.refl _ _ | refine below_next (by with_reducible assumption) ?_)))).mono ?_
                  rintro e w17 ⟨A', c', rfl, hr, hb17⟩
                  go_wp2_with fail
                  go_meet
                  exact ⟨A', m, c', rfl, by rw [HQ.out], by rw [HQ.out]; exact hr, hb17⟩
              · have t0 : (beE l a == 0) = false := by simpa using h0
                have HQ := hide (beO_bad h0)
                clear h0
                go_wp2_with fail
                go_meet
                exact ⟨none, 0, 0, rfl, by rw [HQ.out], by rw [HQ.out]; exact Reads.none_, Below.refl _ _⟩
            case rest =>
              obtain ⟨A17, m17, c17, rfl, rfl, hR17, hb17⟩ := hcut
              rename World => w17
              have B4 : Hid (prE l d ≠ 0 → stO l d = []) := fun h => stO_bad h
              have B6 : Hid (scE l a ≠ 0 → scV l a = 0) := fun h => scV_bad h
              have B8 : Hid (beE l a ≠ 0 → (beO l a).1 = []) := fun h => by rw [beO_bad h]
              have L4 : Hid (m4 ≤ 1000000) := by have := srcs_reads_len R4; have := stO_len l d; show _ ≤ _; omega
              have L8 : Hid (m8 ≤ 1000000) := by have := srcs_reads_len R8; have := beO_len l a; show _ ≤ _; omega
              go_wp2_with fail
              refine (sources_any A4 m4 c4 (stO l d) (prE l d) A15 m15 c15 _ (carry R4 (by repeat (first | with_reducible assumption | exact Below.refl _ _ | refine below_next (by with_reducible assumption) ?_))) (carry hR15 (by repeat (first | with_reducible assumption | exact Below.refl _ _ | refine below_next (by with_reducible assumption) ?_))) L4.out B4.out).mono ?_
              rintro e w18 ⟨rfl, hb18⟩
              go_wp2_with (go_at_call 46; refine (number_any (scV l a) (scE l a) _ B6.out).mono ?_; rintro e W' ⟨rfl, rfl⟩)
              refine (sources_any A8 m8 c8 _ _ A17 m17 c17 _ (carry R8 (by repeat (first | with_reducible assumption | exact Below.refl _ _ | refine below_next (by with_reducible assumption) ?_))) (carry hR17 (by repeat (first | with_reducible assumption | exact Below.refl _ _ | refine below_next (by with_reducible assumption) ?_))) L8.out B8.out).mono ?_
              rintro e w19 ⟨rfl, hb19⟩
              go_wp2_with fail
              go_ret
              exact ⟨rfl, (by repeat (first | with_reducible assumption | exact Below.refl _ _ | refine below_next (by with_reducible assumption) ?_))⟩
  · have hs : shrt m 4 = false := by simpa using hs
    have HSH := hide hs
    clear hs
    by_cases h7 : m = 7
    · have hm : m ≤ 17 := by omega
      have t7 : ((m : Int) != 7) = false := by rw [h7]; rfl
      clear h7
      go_enter Tryz.func6, Tryz.ntmps6
      go_upto_region 1 with (fail)
      obtain ⟨w1, e1, hb1, hz1, kA⟩ := box1 w #[.int .i64 a.a0, .int .i64 a.a1, .int .i64 a.a2, .int .i64 a.a3, .int .i64 a.a4, .int .i64 a.a5, .int .i64 a.a6, .int .i64 a.a7] 64
      rw [← e1]; clear e1
      go_wp2_with fail
      refine (awake_any _ (hV.carry hb1) (tens_below hT hb1 hT.1)).mono ?_
      rintro e w2 ⟨rfl, hb2⟩
      go_upto_region 3 with (go_at_call 18; refine (short_any _ _ _ _ _).mono ?_; rintro e W' ⟨rfl, rfl⟩; rw [HSH.out])
      go_wp2_with fail
      refine (own_any A m c l _ (carry hR (by repeat (first | with_reducible assumption | exact Below.refl _ _ | refine below_next (by with_reducible assumption) ?_))) (by omega)).mono ?_
      rintro e w3 ⟨A3, c3, rfl, hR3, hb3⟩
      go_wp2_with fail
      refine (Steer_any A3 m c3 l d _ hR3 (hV.carry (by repeat (first | with_reducible assumption | exact Below.refl _ _ | refine below_next (by with_reducible assumption) ?_))) (by omega)).mono ?_
      rintro e w4 ⟨A4, m4, c4, rfl, hR4, hb4⟩
      have hRq := carry hR (w' := w4) (by repeat (first | with_reducible assumption | exact Below.refl _ _ | refine below_next (by with_reducible assumption) ?_))
      have kAq := carryK kA (w' := w4) (by repeat (first | with_reducible assumption | exact Below.refl _ _ | refine below_next (by with_reducible assumption) ?_))
      have hVq := hV.carry (show Below w.heap.size w w4 from (by repeat (first | with_reducible assumption | exact Below.refl _ _ | refine below_next (by with_reducible assumption) ?_)))
      go_upto_region 4 with (fail)
      go_cut [9, 10] from 42 to 48 (fun sa sb wx => sa = .int .i64 (scV l a) ∧ sb = .int .i64 (scE l a) ∧ Below w4.heap.size w4 wx)
      case first =>
        have cA := fun i W (h : Below w4.heap.size w4 W) => (carryK kAq h).cell i
        go_region_held3 (fun W => Below w4.heap.size w4 W) (first | exact (Below.refl _ _).drew | (with_reducible assumption) | exact below_new ‹Below w4.heap.size w4 _› (Nat.le_refl _) _ | (refine below_set (below_set (below_set (below_set (by assumption) (by omega) _) (by omega) _) (by omega) _) (by omega) _)) (first | (go_at_call 20; refine (own_any A m c l _ (carry hRq ‹Below w4.heap.size w4 _›) (by omega)).mono ?_; rintro e W1 ⟨A1, c1, rfl, hR1, hbW⟩; have hS := below_step ‹Below w4.heap.size w4 _› hbW (Below.size ‹Below w4.heap.size w4 _›)) | (go_at_call 39; refine (Score_any A1 m c1 l a _ hR1 (hVq.carry ‹Below w4.heap.size w4 _›) (by omega)).mono ?_; rintro e W2 ⟨rfl, hbY⟩; have hS2 := below_step ‹Below w4.heap.size w4 _› hbY (Below.size ‹Below w4.heap.size w4 _›)))
        all_goals
          (try go_wp2_with fail)
          go_meet
          exact ⟨rfl, rfl, by with_reducible assumption⟩
      case rest =>
      obtain ⟨rfl, rfl, hb6⟩ := hcut
      rename World => w6
      have hRr := carry hRq hb6
      have kAr := carryK kAq hb6
      have hVr := hVq.carry hb6
      go_upto_region 5 with (fail)
      go_cut [11, 12, 13] from 49 to 56 (fun sa sb sc wx => ∃ (Ax : Option Addr) (nx cx : Nat), sa = .slice Ax nx cx ∧ sb = .int .i64 (beO l a).2 ∧ sc = .int .i64 (beE l a) ∧ Reads wx wx.heap.size 4 Ax nx (srcs (beO l a).1) ∧ Below w6.heap.size w6 wx)
      case first =>
        have cA := fun i W (h : Below w6.heap.size w6 W) => (carryK kAr h).cell i
        go_region_held3 (fun W => Below w6.heap.size w6 W) (first | exact (Below.refl _ _).drew | (with_reducible assumption) | exact below_new ‹Below w6.heap.size w6 _› (Nat.le_refl _) _ | (refine below_set (below_set (below_set (below_set (by assumption) (by omega) _) (by omega) _) (by omega) _) (by omega) _)) (first | (go_at_call 20; refine (own_any A m c l _ (carry hRr ‹Below w6.heap.size w6 _›) (by omega)).mono ?_; rintro e W1 ⟨A1, c1, rfl, hR1, hbW⟩; have hS := below_step ‹Below w6.heap.size w6 _› hbW (Below.size ‹Below w6.heap.size w6 _›)) | (go_at_call 40; refine (Best_any A1 m c1 l a _ hR1 (hVr.carry ‹Below w6.heap.size w6 _›) (by omega)).mono ?_; rintro e W2 ⟨Ay, ny, cy, rfl, hRy, hbY⟩; have hS2 := below_step ‹Below w6.heap.size w6 _› hbY (Below.size ‹Below w6.heap.size w6 _›)))
        all_goals
          (try go_wp2_with fail)
          go_meet
          exact ⟨Ay, ny, cy, rfl, rfl, rfl, hRy, by with_reducible assumption⟩
      case rest =>
      obtain ⟨A8, m8, c8, rfl, rfl, rfl, hR8, hb8⟩ := hcut
      rename World => w8
      have hRs := carry hRr hb8
      have kAs := carryK kAr hb8
      go_wp2_with fail
      refine (rCheckSources_any A m c l _ hRs (by omega)).mono ?_
      rintro e w9 ⟨rfl, hb9⟩
      have kA9 := carryK kAs hb9
      go_upto_region 7 with (fail)
      go_cut [15, 16, 17] from 59 to 69 (fun sa sb sc wx => sa = .int .i64 (fnz [lstErr l, rng d 0 7]) ∧ sb = .int .i64 (fnz [lstErr l, auE a]) ∧ sc = .int .i64 (lstErr l) ∧ Below w9.heap.size w9 wx)
      case first =>
        have cA := fun i W (h : Below w9.heap.size w9 W) => (carryK kA9 h).cell i
        go_region_held3 (fun W => Below w9.heap.size w9 W) (first | exact (Below.refl _ _).drew | (with_reducible assumption) | exact below_new ‹Below w9.heap.size w9 _› (Nat.le_refl _) _ | (refine below_set (below_set (below_set (below_set (by assumption) (by omega) _) (by omega) _) (by omega) _) (by omega) _)) (first | (go_at_call 22; (first | (with_reducible (refine (rFirst_any _ _ _ _ _ _ (reads2E _ _ _ _ _ (by simp)) (by omega)).mono ?_)) | (with_reducible (refine (rFirst_any _ _ _ _ _ _ (Reads.drew (reads2E _ _ _ _ _ (by simp))) (by omega)).mono ?_))); rintro e W' ⟨rfl, rfl⟩) | (go_at_call 41; refine (rCheckDirection_any _ _).mono ?_; rintro e W' ⟨rfl, rfl⟩) | (go_at_call 42; refine (rCheckAudience_any a _).mono ?_; rintro e W1 ⟨rfl, hbW⟩; have hS := below_step ‹Below w9.heap.size w9 _› hbW (Below.size ‹Below w9.heap.size w9 _›)))
        all_goals
          (try go_wp2_with fail)
          go_meet
          exact ⟨rfl, rfl, rfl, by with_reducible assumption⟩
      case rest =>
      obtain ⟨rfl, rfl, rfl, hb12⟩ := hcut
      rename World => w12
      have hRA := carry hRs (w' := w12) (by repeat (first | with_reducible assumption | exact Below.refl _ _ | refine below_next (by with_reducible assumption) ?_))
      have R4 := carry hR4 (w' := w12) (by repeat (first | with_reducible assumption | exact Below.refl _ _ | refine below_next (by with_reducible assumption) ?_))
      have R8 := carry hR8 (w' := w12) (by repeat (first | with_reducible assumption | exact Below.refl _ _ | refine below_next (by with_reducible assumption) ?_))
      have k12 := carryK kA9 hb12
      have hb012 : Below w.heap.size w w12 := (by repeat (first | with_reducible assumption | exact Below.refl _ _ | refine below_next (by with_reducible assumption) ?_))
      clear hb1 hb2 hb3 hb4 hb6 hb8 hb9 hb12 hR3 hR4 hR8 kA hz1 hV hT hR hRq kAq hVq hRr kAr hVr hRs kAs kA9
      go_upto_region 8 with (fail)
      go_cut [76] from 70 to 75 (fun s76 wx => ∃ t : Bool, s76 = .bool t ∧ Hid (t = decide (lstErr l = 0 ∧ 6 < m)) ∧ w12 = wx)
      case first =>
        by_cases h0 : lstErr l = 0
        · have t0 : (lstErr l == 0) = true := by rw [h0]; rfl
          by_cases h6 : 6 < m
          · have t1 : decide ((6 : Int) < (m : Int)) = true := by simp; omega
            have H : Hid (true = decide (lstErr l = 0 ∧ 6 < m)) := (decide_eq_true ⟨h0, h6⟩).symm
            clear h0 h6
            go_wp2_with fail
            go_meet
            exact ⟨true, rfl, H, rfl⟩
          · have t1 : decide ((6 : Int) < (m : Int)) = false := by simp; omega
            have H : Hid (false = decide (lstErr l = 0 ∧ 6 < m)) := (decide_eq_false fun h => h6 h.2).symm
            clear h0 h6
            go_wp2_with fail
            go_meet
            exact ⟨false, rfl, H, rfl⟩
        · have t0 : (lstErr l == 0) = false := by simpa using h0
          have H : Hid (false = decide (lstErr l = 0 ∧ 6 < m)) := (decide_eq_false fun h => h0 h.1).symm
          clear h0
          go_wp2_with fail
          go_meet
          exact ⟨false, rfl, H, rfl⟩
      case rest =>
        obtain ⟨t, rfl, HD, rfl⟩ := hcut
        go_upto_if 76 with (fail)
        go_cut [17] from 72 to 76 (fun s17 wx => s17 = .int .i64 (midE l m) ∧ w12 = wx)
        case first =>
          cases t
          · have H : Hid (midE l m = lstErr l) := by show _ = _; unfold midE; rw [if_neg (of_decide_eq_false HD.out.symm)]
            clear HD
            go_wp2_with fail
            go_meet
            exact ⟨by rw [H.out], rfl⟩
          · have H : Hid (midE l m = 23) := by show _ = _; unfold midE; rw [if_pos (of_decide_eq_true HD.out.symm)]
            clear HD
            go_wp2_with fail
            go_meet
            exact ⟨by rw [H.out], rfl⟩
        case rest =>
          obtain ⟨rfl, rfl⟩ := hcut
          have cA := k12.cell
          go_wp2_with fail
          clear cA
          refine (rCheckAudience_any a _).mono ?_
          rintro e w13 ⟨rfl, hb13⟩
          go_upto_region 11 with ((go_at_call 22; (first | (with_reducible (refine (rFirst_any _ _ _ _ _ _ (reads2 _ _ _ _) (by omega)).mono ?_)) | (with_reducible (refine (rFirst_any _ _ _ _ _ _ (Reads.drew (reads2 _ _ _ _)) (by omega)).mono ?_))); rintro e W' ⟨rfl, rfl⟩))
          obtain ⟨w14, e14, hb14, hz14, kx1⟩ := box1 w13 #[.int .i64 (midE l m), .int .i64 (auE a)] 3
          rw [← e14, HBE.out]; clear e14 kx1
          go_upto_if 83 with (fail)
          go_cut [18] from 82 to 86 (fun s18 wx => ∃ (Ax : Option Addr) (nx cx : Nat), s18 = .slice Ax nx cx ∧ Reads wx wx.heap.size 4 Ax nx (srcs (stO l d)) ∧ Below w14.heap.size w14 wx)
          case first =>
            by_cases h0 : prE l d = 0
            · obtain ⟨hok, k, hk, rfl⟩ := prE_ok h0
              have HO := hide hok
              have HQ : Hid (stO l (k : Int) = l.map (str k)) := by show _ = _; unfold stO; rw [if_pos h0]; rfl
              have t0 : (fnz [lstErr l, rng (k : Int) 0 7] == 0) = true := by rw [show fnz [lstErr l, rng (k : Int) 0 7] = 0 from h0]; rfl
              clear h0 hok
              go_wp2_with fail
              refine (rSteer_any A m c l k _ hk HO.out (carry hRA (by repeat (first | with_reducible assumption | exact Below.refl _ _ | refine below_next (by with_reducible assumption) ?_)))).mono ?_
              rintro e w15 ⟨v, rfl, ho, hb15⟩
              obtain ⟨A', c', rfl, hr⟩ := own_slice ho
              clear ho
              go_wp2_with fail
              go_meet
              exact ⟨A', m, c', rfl, by rw [HQ.out]; exact hr, hb15⟩
            · have t0 : (fnz [lstErr l, rng d 0 7] == 0) = false := by simpa using (show ¬ fnz [lstErr l, rng d 0 7] = 0 from h0)
              have HQ := hide (stO_bad h0)
              clear h0
              go_wp2_with fail
              go_meet
              exact ⟨none, 0, 0, rfl, by rw [HQ.out]; exact Reads.none_, Below.refl _ _⟩
          case rest =>
            obtain ⟨A15, m15, c15, rfl, hR15, hb15⟩ := hcut
            rename World => w15
            go_upto_if 88 with (fail)
            go_cut [20] from 87 to 91 (fun s20 wx => s20 = .int .i64 (scV l a) ∧ Below w15.heap.size w15 wx)
            case first =>
              by_cases h0 : scE l a = 0
              · obtain ⟨hok, hau⟩ := scE_ok h0
                have HO := hide hok
                have HA := hide (auE_ok hau)
                have HQ : Hid (scV l a = scr l a.l) := by show _ = _; unfold scV; rw [if_pos h0]
                have t0 : (fnz [lstErr l, auE a] == 0) = true := by rw [show fnz [lstErr l, auE a] = 0 from h0]; rfl
                have cA := (carryK k12 (w' := w15) (by repeat (first | with_reducible assumption | exact Below.refl _ _ | refine below_next (by with_reducible assumption) ?_))).cell
                clear h0 hok hau
                go_wp2_with fail
                clear cA
                refine (rScore_any A m c l a _ HO.out HA.out (carry hRA (by repeat (first | with_reducible assumption | exact Below.refl _ _ | refine below_next (by with_reducible assumption) ?_)))).mono ?_
                rintro e w16 ⟨rfl, hb16⟩
                go_wp2_with fail
                go_meet
                exact ⟨by rw [HQ.out], hb16⟩
              · have t0 : (fnz [lstErr l, auE a] == 0) = false := by simpa using (show ¬ fnz [lstErr l, auE a] = 0 from h0)
                have HQ := hide (scV_bad h0)
                clear h0
                go_wp2_with fail
                go_meet
                exact ⟨by rw [HQ.out], Below.refl _ _⟩
            case rest =>
              obtain ⟨rfl, hb16⟩ := hcut
              rename World => w16
              go_upto_if 93 with (fail)
              go_cut [19, 21] from 92 to 99 (fun s19 s21 wx => ∃ (Ax : Option Addr) (nx cx : Nat), s19 = .slice Ax nx cx ∧ s21 = .int .i64 (beO l a).2 ∧ Reads wx wx.heap.size 4 Ax nx (srcs (beO l a).1) ∧ Below w16.heap.size w16 wx)
              case first =>
                by_cases h0 : beE l a = 0
                · obtain ⟨hok, h6, hau⟩ := beE_ok h0
                  rw [HL.out] at h6
                  have HO := hide hok
                  have HA := hide (auE_ok hau)
                  have HQ : Hid (beO l a = (bst l a.l, scr (bst l a.l) a.l)) := by show _ = _; unfold beO; rw [if_pos h0]
                  have t0 : (beE l a == 0) = true := by rw [h0]; rfl
                  have cA := (carryK k12 (w' := w16) (by repeat (first | with_reducible assumption | exact Below.refl _ _ | refine below_next (by with_reducible assumption) ?_))).cell
                  clear h0 hok hau
                  go_wp2_with fail
                  all_goals
                    clear cA
                    refine (rBest_any A m c l a _ HO.out h6 HA.out (carry hRA (by repeat (first | with_reducible assumption | exact Below.refl _ _ | refine below_next (by with_reducible assumption) ?_)))).mono ?_
                    rintro e w17 ⟨A', c', rfl, hr, hb17⟩
                    go_wp2_with fail
                    go_meet
                    exact ⟨A', m, c', rfl, by rw [HQ.out], by rw [HQ.out]; exact hr, hb17⟩
                · have t0 : (beE l a == 0) = false := by simpa using h0
                  have HQ := hide (beO_bad h0)
                  clear h0
                  go_wp2_with fail
                  go_meet
                  exact ⟨none, 0, 0, rfl, by rw [HQ.out], by rw [HQ.out]; exact Reads.none_, Below.refl _ _⟩
              case rest =>
                obtain ⟨A17, m17, c17, rfl, rfl, hR17, hb17⟩ := hcut
                rename World => w17
                have B4 : Hid (prE l d ≠ 0 → stO l d = []) := fun h => stO_bad h
                have B6 : Hid (scE l a ≠ 0 → scV l a = 0) := fun h => scV_bad h
                have B8 : Hid (beE l a ≠ 0 → (beO l a).1 = []) := fun h => by rw [beO_bad h]
                have L4 : Hid (m4 ≤ 1000000) := by have := srcs_reads_len R4; have := stO_len l d; show _ ≤ _; omega
                have L8 : Hid (m8 ≤ 1000000) := by have := srcs_reads_len R8; have := beO_len l a; show _ ≤ _; omega
                go_wp2_with fail
                refine (sources_any A4 m4 c4 (stO l d) (prE l d) A15 m15 c15 _ (carry R4 (by repeat (first | with_reducible assumption | exact Below.refl _ _ | refine below_next (by with_reducible assumption) ?_))) (carry hR15 (by repeat (first | with_reducible assumption | exact Below.refl _ _ | refine below_next (by with_reducible assumption) ?_))) L4.out B4.out).mono ?_
                rintro e w18 ⟨rfl, hb18⟩
                go_wp2_with (go_at_call 46; refine (number_any (scV l a) (scE l a) _ B6.out).mono ?_; rintro e W' ⟨rfl, rfl⟩)
                refine (sources_any A8 m8 c8 _ _ A17 m17 c17 _ (carry R8 (by repeat (first | with_reducible assumption | exact Below.refl _ _ | refine below_next (by with_reducible assumption) ?_))) (carry hR17 (by repeat (first | with_reducible assumption | exact Below.refl _ _ | refine below_next (by with_reducible assumption) ?_))) L8.out B8.out).mono ?_
                rintro e w19 ⟨rfl, hb19⟩
                go_wp2_with fail
                go_ret
                exact ⟨rfl, (by repeat (first | with_reducible assumption | exact Below.refl _ _ | refine below_next (by with_reducible assumption) ?_))⟩
    · have t7 : ((m : Int) != 7) = true := by simp; omega
      go_enter Tryz.func6, Tryz.ntmps6
      go_upto_region 1 with (fail)
      obtain ⟨w1, e1, hb1, hz1, kA⟩ := box1 w #[.int .i64 a.a0, .int .i64 a.a1, .int .i64 a.a2, .int .i64 a.a3, .int .i64 a.a4, .int .i64 a.a5, .int .i64 a.a6, .int .i64 a.a7] 64
      rw [← e1]; clear e1
      go_wp2_with fail
      refine (awake_any _ (hV.carry hb1) (tens_below hT hb1 hT.1)).mono ?_
      rintro e w2 ⟨rfl, hb2⟩
      go_wp2_with (go_at_call 18; refine (short_any _ _ _ _ _).mono ?_; rintro e W' ⟨rfl, rfl⟩; rw [HSH.out])
      refine (awake_any _ (hV.carry (by repeat (first | with_reducible assumption | exact Below.refl _ _ | refine below_next (by with_reducible assumption) ?_))) (tens_below hT (show Below w.heap.size w w2 from (by repeat (first | with_reducible assumption | exact Below.refl _ _ | refine below_next (by with_reducible assumption) ?_))) hT.1)).mono ?_
      rintro e w3 ⟨rfl, hb3⟩
      go_wp2_with fail
      go_ret
      exact ⟨rfl, (by repeat (first | with_reducible assumption | exact Below.refl _ _ | refine below_next (by with_reducible assumption) ?_))⟩
end Go.Proofs.YtcihiglpahhboaaGreatDoor
