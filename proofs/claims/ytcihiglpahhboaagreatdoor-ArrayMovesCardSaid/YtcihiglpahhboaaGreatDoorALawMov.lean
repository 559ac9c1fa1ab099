/- The law ArrayMoves: for all arguments it returns true. -/
import Derived.Test.YtcihiglpahhboaaGreatDoorAAwk
import Derived.Test.YtcihiglpahhboaaGreatDoorARTrn
import Derived.Test.YtcihiglpahhboaaGreatDoorARMir
import Derived.Test.YtcihiglpahhboaaGreatDoorALawG
import Derived.Deep.DeepCutAuto
namespace Go.Proofs.YtcihiglpahhboaaGreatDoor
open Go.RowKit Go.Shelf
set_option maxRecDepth 100000
theorem tuO_bad {l : List Src} {n : Int} (h : tuE l n ≠ 0) : tuO l n = [] := by unfold tuO; rw [if_neg h]
theorem shO_bad {l : List Src} {u v : Int} (h : (shO l u v).2 ≠ 0) : (shO l u v).1 = [] := by
  unfold shO at h ⊢
  split
  · rw [if_pos ‹_›] at h; exact vld_bad h
  · rfl
theorem miO_bad {l : List Src} {u : Int} {b : Bool} (h : (miO l u b).2 ≠ 0) : (miO l u b).1 = [] := by
  unfold miO at h ⊢
  split
  · rw [if_pos ‹_›] at h; exact vld_bad h
  · rfl
theorem vldLen (l : List Src) : (vld l).length ≤ 16 := by
  unfold vld
  split
  · exact (lst_ok ‹_›).len
  · simp
theorem tuO_len (l : List Src) (n : Int) : (tuO l n).length ≤ 16 := by
  unfold tuO
  split
  · rename_i h
    have h := (fnz_zero.1 h) (lstErr l) (by simp)
    rw [List.length_map]; exact (lst_ok h).len
  · simp
theorem shO_len (l : List Src) (u v : Int) : (shO l u v).1.length ≤ 16 := by
  unfold shO
  split
  · exact vldLen _
  · simp
theorem miO_len (l : List Src) (u : Int) (b : Bool) : (miO l u b).1.length ≤ 16 := by
  unfold miO
  split
  · exact vldLen _
  · simp
set_option maxHeartbeats 8000000 in
theorem lawMov_any (A : Option Addr) (m c : Nat) (l : List Src) (q x y u : Int) (b : Bool) (w : World) (hR : Reads w w.heap.size 4 A m (srcs l)) (hV : Vr w) (hT : Tens w) :
    Calls Tryz.prog 10 #[.slice A m c, .agg #[.int .i64 q, .int .i64 x, .int .i64 y, .int .i64 u, .bool b]] w fun e w' => e = .returned (.bool true) ∧ Below w.heap.size w w' := by
  by_cases hs : shrt m 9 = true
  · have hm : m ≤ 17 := by unfold shrt at hs; simp at hs; omega
    have HSH := hide hs
    clear hs
    go_enter Tryz.func10, Tryz.ntmps10
    go_upto_region 1 with (fail)
    obtain ⟨w1, e1, hb1, hz1, kN⟩ := box1 w #[.int .i64 q, .int .i64 x, .int .i64 y, .int .i64 u, .bool b] 107
    rw [← e1]; clear e1
    go_wp2_with fail
    refine (awake_any _ (hV.carry hb1) (tens_below hT hb1 hT.1)).mono ?_
    rintro e w2 ⟨rfl, hb2⟩
    go_upto_region 3 with (go_at_call 18; refine (short_any _ _ _ _ _).mono ?_; rintro e W' ⟨rfl, rfl⟩; rw [HSH.out])
    have hR2 := carry hR (w' := w2) (by repeat (first | with_reducible assumption | exact Below.refl _ _ | refine below_next (by with_reducible assumption) ?_))
    have kN2 := carryK kN (w' := w2) (by repeat (first | with_reducible assumption | exact Below.refl _ _ | refine below_next (by with_reducible assumption) ?_))
    have hb02 : Below w.heap.size w w2 := (by repeat (first | with_reducible assumption | exact Below.refl _ _ | refine below_next (by with_reducible assumption) ?_))
    clear hb1 hb2 hR kN hz1
    go_cut [5, 6] from 26 to 33 (fun sa sb wx => ∃ (Ax : Option Addr) (nx cx : Nat), sa = .slice Ax nx cx ∧ sb = .int .i64 (tuE l q) ∧ Reads wx wx.heap.size 4 Ax nx (srcs (tuO l q)) ∧ Below w2.heap.size w2 wx)
    case first =>
      have cN := fun i W (h : Below w2.heap.size w2 W) => (carryK kN2 h).cell i
      go_region_held3 (fun W => Below w2.heap.size w2 W) (first | exact (Below.refl _ _).drew | (with_reducible assumption) | exact below_new ‹Below w2.heap.size w2 _› (Nat.le_refl _) _ | (refine below_set (below_set (below_set (below_set (by assumption) (by omega) _) (by omega) _) (by omega) _) (by omega) _)) (first | (go_at_call 20; refine (own_any A m c l _ (carry hR2 ‹Below w2.heap.size w2 _›) (by omega)).mono ?_; rintro e W1 ⟨A1, c1, rfl, hR1, hbW⟩; have hS := below_step ‹Below w2.heap.size w2 _› hbW (Below.size ‹Below w2.heap.size w2 _›)) | (go_at_call 64; refine (Turn_any A1 m c1 l q _ hR1 (by omega)).mono ?_; rintro e W2 ⟨Ay, ny, cy, rfl, hRy, hbY⟩; have hS2 := below_step ‹Below w2.heap.size w2 _› hbY (Below.size ‹Below w2.heap.size w2 _›)))
      all_goals
        (try go_wp2_with fail)
        go_meet
        exact ⟨Ay, ny, cy, rfl, rfl, hRy, by with_reducible assumption⟩
    case rest =>
    obtain ⟨A4, m4, c4, rfl, rfl, hR4, hb4⟩ := hcut
    rename World => w4
    have hR4b := carry hR2 (w' := w4) (by repeat (first | with_reducible assumption | exact Below.refl _ _ | refine below_next (by with_reducible assumption) ?_))
    have kN4 := carryK kN2 (w' := w4) (by repeat (first | with_reducible assumption | exact Below.refl _ _ | refine below_next (by with_reducible assumption) ?_))
    go_upto_region 4 with (fail)
    go_cut [7, 8] from 34 to 43 (fun sa sb wx => ∃ (Ax : Option Addr) (nx cx : Nat), sa = .slice Ax nx cx ∧ sb = .int .i64 ((shO l x y).2) ∧ Reads wx wx.heap.size 4 Ax nx (srcs ((shO l x y).1)) ∧ Below w4.heap.size w4 wx)
    case first =>
      have cN := fun i W (h : Below w4.heap.size w4 W) => (carryK kN4 h).cell i
      go_region_held3 (fun W => Below w4.heap.size w4 W) (first | exact (Below.refl _ _).drew | (with_reducible assumption) | exact below_new ‹Below w4.heap.size w4 _› (Nat.le_refl _) _ | (refine below_set (below_set (below_set (below_set (by assumption) (by omega) _) (by omega) _) (by omega) _) (by omega) _)) (first | (go_at_call 20; refine (own_any A m c l _ (carry hR4b ‹Below w4.heap.size w4 _›) (by omega)).mono ?_; rintro e W1 ⟨A1, c1, rfl, hR1, hbW⟩; have hS := below_step ‹Below w4.heap.size w4 _› hbW (Below.size ‹Below w4.heap.size w4 _›)) | (go_at_call 65; refine (Shift_any A1 m c1 l x y _ hR1 (by omega)).mono ?_; rintro e W2 ⟨Ay, ny, cy, rfl, hRy, hbY⟩; have hS2 := below_step ‹Below w4.heap.size w4 _› hbY (Below.size ‹Below w4.heap.size w4 _›)))
      all_goals
        (try go_wp2_with fail)
        go_meet
        exact ⟨Ay, ny, cy, rfl, rfl, hRy, by with_reducible assumption⟩
    case rest =>
    obtain ⟨A6, m6, c6, rfl, rfl, hR6, hb6⟩ := hcut
    rename World => w6
    have hR6b := carry hR4b (w' := w6) (by repeat (first | with_reducible assumption | exact Below.refl _ _ | refine below_next (by with_reducible assumption) ?_))
    have kN6 := carryK kN4 (w' := w6) (by repeat (first | with_reducible assumption | exact Below.refl _ _ | refine below_next (by with_reducible assumption) ?_))
    go_upto_region 5 with (fail)
    go_cut [9, 10] from 44 to 53 (fun sa sb wx => ∃ (Ax : Option Addr) (nx cx : Nat), sa = .slice Ax nx cx ∧ sb = .int .i64 ((miO l u b).2) ∧ Reads wx wx.heap.size 4 Ax nx (srcs ((miO l u b).1)) ∧ Below w6.heap.size w6 wx)
    case first =>
      have cN := fun i W (h : Below w6.heap.size w6 W) => (carryK kN6 h).cell i
      go_region_held3 (fun W => Below w6.heap.size w6 W) (first | exact (Below.refl _ _).drew | (with_reducible assumption) | exact below_new ‹Below w6.heap.size w6 _› (Nat.le_refl _) _ | (refine below_set (below_set (below_set (below_set (by assumption) (by omega) _) (by omega) _) (by omega) _) (by omega) _)) (first | (go_at_call 20; refine (own_any A m c l _ (carry hR6b ‹Below w6.heap.size w6 _›) (by omega)).mono ?_; rintro e W1 ⟨A1, c1, rfl, hR1, hbW⟩; have hS := below_step ‹Below w6.heap.size w6 _› hbW (Below.size ‹Below w6.heap.size w6 _›)) | (go_at_call 66; refine (Mirror_any A1 m c1 l u b _ hR1 (by omega)).mono ?_; rintro e W2 ⟨Ay, ny, cy, rfl, hRy, hbY⟩; have hS2 := below_step ‹Below w6.heap.size w6 _› hbY (Below.size ‹Below w6.heap.size w6 _›)))
      all_goals
        (try go_wp2_with fail)
        go_meet
        exact ⟨Ay, ny, cy, rfl, rfl, hRy, by with_reducible assumption⟩
    case rest =>
    obtain ⟨A8, m8, c8, rfl, rfl, hR8, hb8⟩ := hcut
    rename World => w8
    have hR8b := carry hR6b (w' := w8) (by repeat (first | with_reducible assumption | exact Below.refl _ _ | refine below_next (by with_reducible assumption) ?_))
    have kN := carryK kN6 (w' := w8) (by repeat (first | with_reducible assumption | exact Below.refl _ _ | refine below_next (by with_reducible assumption) ?_))
    have hR := hR8b
    go_wp2_with fail
    refine (rCheckSources_any A m c l _ (carry hR (by repeat (first | with_reducible assumption | exact Below.refl _ _ | refine below_next (by with_reducible assumption) ?_))) (by omega)).mono ?_
    rintro e w9 ⟨rfl, hb9⟩
    have hR9 := carry hR (w' := w9) (by repeat (first | with_reducible assumption | exact Below.refl _ _ | refine below_next (by with_reducible assumption) ?_))
    have kN9 := carryK kN (w' := w9) (by repeat (first | with_reducible assumption | exact Below.refl _ _ | refine below_next (by with_reducible assumption) ?_))
    go_upto_region 7 with (fail)
    go_cut [12, 13, 14] from 56 to 76 (fun sa sb sc wx => sa = .int .i64 (fnz [lstErr l, rng q (-999999999) 999999999]) ∧ sb = .int .i64 (fnz [lstErr l, rng x (-100) 100, rng y (-100) 100]) ∧ sc = .int .i64 (fnz [lstErr l, rng u (-100) 100]) ∧ Below w9.heap.size w9 wx)
    case first =>
      have cN := fun i W (h : Below w9.heap.size w9 W) => (carryK kN9 h).cell i
      go_region_held3 (fun W => Below w9.heap.size w9 W) (first | exact (Below.refl _ _).drew | (with_reducible assumption) | exact below_new ‹Below w9.heap.size w9 _› (Nat.le_refl _) _ | (refine below_set (below_set (below_set (below_set (by assumption) (by omega) _) (by omega) _) (by omega) _) (by omega) _)) (first | (go_at_call 22; (first | (with_reducible (refine (rFirst_any _ _ _ _ _ _ (reads2E _ _ _ _ _ (by simp)) (by omega)).mono ?_)) | (with_reducible (refine (rFirst_any _ _ _ _ _ _ (Reads.drew (reads2E _ _ _ _ _ (by simp))) (by omega)).mono ?_))); rintro e W' ⟨rfl, rfl⟩) | (go_at_call 22; (first | (with_reducible (refine (rFirst_any _ _ _ _ _ _ (reads3E _ _ _ _ _ _ (by simp)) (by omega)).mono ?_)) | (with_reducible (refine (rFirst_any _ _ _ _ _ _ (Reads.drew (reads3E _ _ _ _ _ _ (by simp))) (by omega)).mono ?_))); rintro e W' ⟨rfl, rfl⟩) | (go_at_call 67; refine (rCheckTurns_any _ _).mono ?_; rintro e W' ⟨rfl, rfl⟩) | (go_at_call 68; refine (rCheckPlace_any _ _).mono ?_; rintro e W' ⟨rfl, rfl⟩))
      all_goals
        (try go_wp2_with fail)
        go_meet
        exact ⟨rfl, rfl, rfl, by with_reducible assumption⟩
    case rest =>
    obtain ⟨rfl, rfl, rfl, hb10⟩ := hcut
    rename World => w10
    have hRA := carry hR (w' := w10) (by repeat (first | with_reducible assumption | exact Below.refl _ _ | refine below_next (by with_reducible assumption) ?_))
    have R4 := carry hR4 (w' := w10) (by repeat (first | with_reducible assumption | exact Below.refl _ _ | refine below_next (by with_reducible assumption) ?_))
    have R6 := carry hR6 (w' := w10) (by repeat (first | with_reducible assumption | exact Below.refl _ _ | refine below_next (by with_reducible assumption) ?_))
    have R8 := carry hR8 (w' := w10) (by repeat (first | with_reducible assumption | exact Below.refl _ _ | refine below_next (by with_reducible assumption) ?_))
    have k10 := carryK kN (w' := w10) (by repeat (first | with_reducible assumption | exact Below.refl _ _ | refine below_next (by with_reducible assumption) ?_))
    have hb010 : Below w.heap.size w w10 := (by repeat (first | with_reducible assumption | exact Below.refl _ _ | refine below_next (by with_reducible assumption) ?_))
    clear hb4 hb6 hb8 hb9 hb10 hR4 hR6 hR8 kN hV hT hR hR2 hR4b hR6b hR8b kN2 kN4 kN6 kN9 hR9 hb02
    go_upto_if 78 with (fail)
    go_cut [15] from 77 to 82 (fun s15 wx => ∃ (Ax : Option Addr) (nx cx : Nat), s15 = .slice Ax nx cx ∧ Reads wx wx.heap.size 4 Ax nx (srcs (tuO l q)) ∧ Below w10.heap.size w10 wx)
    case first =>
      by_cases h0 : tuE l q = 0
      · have HO := hide (lst_ok ((fnz_zero.1 h0) (lstErr l) (by simp)))
        have HQ : Hid (tuO l q = l.map (trn (q % 4).toNat)) := by show _ = _; unfold tuO; rw [if_pos h0]
        have t0 : (fnz [lstErr l, rng q (-999999999) 999999999] == 0) = true := by rw [show fnz [lstErr l, rng q (-999999999) 999999999] = 0 from h0]; rfl
        have cN := k10.cell
        clear h0
        go_wp2_with fail
        refine (rTurn_any A m c l q _ HO.out hRA).mono ?_
        rintro e w11 ⟨v, rfl, ho, hb11⟩
        obtain ⟨A', c', rfl, hr⟩ := own_slice ho
        clear cN ho
        go_wp2_with fail
        go_meet
        exact ⟨A', m, c', rfl, by rw [HQ.out]; exact hr, hb11⟩
      · have t0 : (fnz [lstErr l, rng q (-999999999) 999999999] == 0) = false := by simpa using (show ¬ fnz [lstErr l, rng q (-999999999) 999999999] = 0 from h0)
        have HQ := hide (tuO_bad h0)
        clear h0
        go_wp2_with fail
        go_meet
        exact ⟨none, 0, 0, rfl, by rw [HQ.out]; exact Reads.none_, Below.refl _ _⟩
    case rest =>
      obtain ⟨A11, m11, c11, rfl, hR11, hb11⟩ := hcut
      rename World => w11
      go_upto_if 84 with (fail)
      go_cut [16, 13] from 83 to 93 (fun s16 s13 wx => ∃ (Ax : Option Addr) (nx cx : Nat), s16 = .slice Ax nx cx ∧ s13 = .int .i64 (shO l x y).2 ∧ Reads wx wx.heap.size 4 Ax nx (srcs (shO l x y).1) ∧ Below w11.heap.size w11 wx)
      case first =>
        by_cases h0 : shE l x y = 0
        · have HO := hide (lst_ok ((fnz_zero.1 h0) (lstErr l) (by simp)))
          have hx := rng_zero.1 ((fnz_zero.1 h0) (rng x (-100) 100) (by simp))
          have hy := rng_zero.1 ((fnz_zero.1 h0) (rng y (-100) 100) (by simp))
          have HX := hide hx
          have HY := hide hy
          have HQ : Hid (shO l x y = (vld (l.map (shf x y)), lstErr (l.map (shf x y)))) := by show _ = _; unfold shO; rw [if_pos h0]
          have t0 : (fnz [lstErr l, rng x (-100) 100, rng y (-100) 100] == 0) = true := by rw [show fnz [lstErr l, rng x (-100) 100, rng y (-100) 100] = 0 from h0]; rfl
          have cN := (carryK k10 hb11).cell
          clear h0 hx hy
          go_wp2_with fail
          refine (rShift_any A m c l x y _ HO.out HX.out HY.out (carry hRA hb11)).mono ?_
          rintro e w12 ⟨A', m', c', rfl, hr, hb12⟩
          clear cN
          go_wp2_with fail
          go_meet
          exact ⟨A', m', c', rfl, by rw [HQ.out], by rw [HQ.out]; exact hr, hb12⟩
        · have t0 : (fnz [lstErr l, rng x (-100) 100, rng y (-100) 100] == 0) = false := by simpa using (show ¬ fnz [lstErr l, rng x (-100) 100, rng y (-100) 100] = 0 from h0)
          have HQ : Hid (shO l x y = ([], fnz [lstErr l, rng x (-100) 100, rng y (-100) 100])) := by show _ = _; unfold shO; rw [if_neg h0]; rfl
          clear h0
          go_wp2_with fail
          go_meet
          exact ⟨none, 0, 0, rfl, by rw [HQ.out], by rw [HQ.out]; exact Reads.none_, Below.refl _ _⟩
      case rest =>
        obtain ⟨A12, m12, c12, rfl, rfl, hR12, hb12⟩ := hcut
        rename World => w12
        go_upto_if 95 with (fail)
        go_cut [17, 14] from 94 to 104 (fun s17 s14 wx => ∃ (Ax : Option Addr) (nx cx : Nat), s17 = .slice Ax nx cx ∧ s14 = .int .i64 (miO l u b).2 ∧ Reads wx wx.heap.size 4 Ax nx (srcs (miO l u b).1) ∧ Below w12.heap.size w12 wx)
        case first =>
          by_cases h0 : miE l u = 0
          · have HO := hide (lst_ok ((fnz_zero.1 h0) (lstErr l) (by simp)))
            have hu := rng_zero.1 ((fnz_zero.1 h0) (rng u (-100) 100) (by simp))
            have HU := hide hu
            have HQ : Hid (miO l u b = (vld (mirL l u b), lstErr (mirL l u b))) := by show _ = _; unfold miO; rw [if_pos h0]
            have t0 : (fnz [lstErr l, rng u (-100) 100] == 0) = true := by rw [show fnz [lstErr l, rng u (-100) 100] = 0 from h0]; rfl
            have cN := (carryK (carryK k10 hb11) hb12).cell
            clear h0 hu
            go_wp2_with fail
            refine (rMirror_any A m c l u b _ HO.out HU.out (carry (carry hRA hb11) hb12)).mono ?_
            rintro e w13 ⟨A', m', c', rfl, hr, hb13⟩
            clear cN
            go_wp2_with fail
            go_meet
            exact ⟨A', m', c', rfl, by rw [HQ.out], by rw [HQ.out]; exact hr, hb13⟩
          · have t0 : (fnz [lstErr l, rng u (-100) 100] == 0) = false := by simpa using (show ¬ fnz [lstErr l, rng u (-100) 100] = 0 from h0)
            have HQ : Hid (miO l u b = ([], fnz [lstErr l, rng u (-100) 100])) := by show _ = _; unfold miO; rw [if_neg h0]; rfl
            clear h0
            go_wp2_with fail
            go_meet
            exact ⟨none, 0, 0, rfl, by rw [HQ.out], by rw [HQ.out]; exact Reads.none_, Below.refl _ _⟩
        case rest =>
          obtain ⟨A13, m13, c13, rfl, rfl, hR13, hb13⟩ := hcut
          rename World => w13
          have B4 : Hid (tuE l q ≠ 0 → tuO l q = []) := fun h => tuO_bad h
          have B6 : Hid ((shO l x y).2 ≠ 0 → (shO l x y).1 = []) := fun h => shO_bad h
          have B8 : Hid ((miO l u b).2 ≠ 0 → (miO l u b).1 = []) := fun h => miO_bad h
          have L4 : Hid (m4 ≤ 1000000) := by have := srcs_reads_len R4; have := tuO_len l q; show _ ≤ _; omega
          have L6 : Hid (m6 ≤ 1000000) := by have := srcs_reads_len R6; have := shO_len l x y; show _ ≤ _; omega
          have L8 : Hid (m8 ≤ 1000000) := by have := srcs_reads_len R8; have := miO_len l u b; show _ ≤ _; omega
          go_wp2_with fail
          refine (sources_any A4 m4 c4 (tuO l q) (tuE l q) A11 m11 c11 _ (carry R4 (by repeat (first | with_reducible assumption | exact Below.refl _ _ | refine below_next (by with_reducible assumption) ?_))) (carry hR11 (by repeat (first | with_reducible assumption | exact Below.refl _ _ | refine below_next (by with_reducible assumption) ?_))) L4.out B4.out).mono ?_
          rintro e w14 ⟨rfl, hb14⟩
          go_wp2_with fail
          refine (sources_any A6 m6 c6 _ _ A12 m12 c12 _ (carry R6 (by repeat (first | with_reducible assumption | exact Below.refl _ _ | refine below_next (by with_reducible assumption) ?_))) (carry hR12 (by repeat (first | with_reducible assumption | exact Below.refl _ _ | refine below_next (by with_reducible assumption) ?_))) L6.out B6.out).mono ?_
          rintro e w15 ⟨rfl, hb15⟩
          go_wp2_with fail
          refine (sources_any A8 m8 c8 _ _ A13 m13 c13 _ (carry R8 (by repeat (first | with_reducible assumption | exact Below.refl _ _ | refine below_next (by with_reducible assumption) ?_))) (carry hR13 (by repeat (first | with_reducible assumption | exact Below.refl _ _ | refine below_next (by with_reducible assumption) ?_))) L8.out B8.out).mono ?_
          rintro e w16 ⟨rfl, hb16⟩
          go_wp2_with fail
          go_ret
          exact ⟨rfl, (by repeat (first | with_reducible assumption | exact Below.refl _ _ | refine below_next (by with_reducible assumption) ?_))⟩
  · have hs : shrt m 9 = false := by simpa using hs
    go_enter Tryz.func10, Tryz.ntmps10
    go_upto_region 1 with (fail)
    obtain ⟨w1, e1, hb1, hz1, kN⟩ := box1 w #[.int .i64 q, .int .i64 x, .int .i64 y, .int .i64 u, .bool b] 107
    rw [← e1]; clear e1
    go_wp2_with fail
    refine (awake_any _ (hV.carry hb1) (tens_below hT hb1 hT.1)).mono ?_
    rintro e w2 ⟨rfl, hb2⟩
    go_wp2_with (go_at_call 18; refine (short_any _ _ _ _ _).mono ?_; rintro e W' ⟨rfl, rfl⟩; rw [hs])
    refine (awake_any _ (hV.carry (by repeat (first | with_reducible assumption | exact Below.refl _ _ | refine below_next (by with_reducible assumption) ?_))) (tens_below hT (show Below w.heap.size w w2 from (by repeat (first | with_reducible assumption | exact Below.refl _ _ | refine below_next (by with_reducible assumption) ?_))) hT.1)).mono ?_
    rintro e w3 ⟨rfl, hb3⟩
    go_wp2_with fail
    go_ret
    exact ⟨rfl, (by repeat (first | with_reducible assumption | exact Below.refl _ _ | refine below_next (by with_reducible assumption) ?_))⟩
end Go.Proofs.YtcihiglpahhboaaGreatDoor
