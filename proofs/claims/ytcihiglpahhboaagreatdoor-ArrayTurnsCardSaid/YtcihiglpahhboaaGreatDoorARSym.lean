/- Symmetries of the reference; the law ArrayWeights: for all arguments it returns true. -/
import Derived.Test.YtcihiglpahhboaaGreatDoorARNor2
import Derived.Test.YtcihiglpahhboaaGreatDoorAAwk
import Derived.Test.YtcihiglpahhboaaGreatDoorALawG
import Derived.Deep.DeepCutAuto
namespace Go.Proofs.YtcihiglpahhboaaGreatDoor
open Go.RowKit Go.Shelf
set_option maxRecDepth 100000
theorem nrm_len1000 {l : List Src} (h : LOk l) : (nrm l).length ≤ 16 := by
  have h1 := allW_len l
  have h2 := List.length_filter_le (fun w : Wt => decide (w.z ≠ .zero)) (allW l)
  have h3 := h.len
  unfold nrm
  omega
set_option maxHeartbeats 4000000 in
theorem rSymmetries_any (A : Option Addr) (m c : Nat) (l : List Src) (w : World) (hok : LOk l) (hR : Reads w w.heap.size 4 A m (srcs l)) :
    Calls Tryz.prog 30 #[.slice A m c] w fun e w' => ∃ A' n' c', e = .returned (.slice A' n' c') ∧ Reads w' w'.heap.size 1 A' n' (ints (syP l 4)) ∧ Below w.heap.size w w' := by
  have HO := hide hok
  have hq : ∀ n, (nrm (l.map (trn n))).length ≤ 16 := fun n => nrm_len1000 (trn_lok hok n)
  have hq0 := nrm_len1000 hok
  clear hok
  go_enter Tryz.func30, Tryz.ntmps30
  go_wp2_with fail
  go_loopw [3, 4] (fun v i wr => ∃ k : Nat, k ≤ 4 ∧ i = .int .i64 k ∧ wr.ownsRow w.heap.size 3 1 v (syP l k).length (ints (syP l k)) ∧ Below w.heap.size w wr) (fun _ i _ => 4 - (intOf i).toNat)
  case atStart => exact ⟨0, by omega, rfl, World.ownsRow_nil _ _ _ _, Below.refl _ _⟩
  case round =>
    rename World => wo
    obtain ⟨k, hk, rfl, ho, hb⟩ := hrel
    by_cases hlt : k < 4
    · have hki : (k : Int) < 4 := by omega
      have hkm : ((k : Int) % 4).toNat = k := by omega
      have hlen := syP_len l k
      have hqk := hq k
      go_wp2_with fail
      refine (rTurn_any A m c l k wo HO.out (carry hR hb)).mono ?_
      rintro e w2 ⟨v2, rfl, ho2, hb2⟩
      obtain ⟨A2, c2, rfl, hR2⟩ := own_slice ho2
      rw [hkm] at hR2
      clear ho2
      go_wp2_with fail
      refine (rNormal_any A2 m c2 _ w2 (trn_lok HO.out k) hR2).mono ?_
      rintro e w3 ⟨v3, rfl, ho3, hb3⟩
      obtain ⟨A3, c3, rfl, hR3⟩ := own_slice ho3
      clear ho3
      go_wp2_with fail
      refine (rNormal_any A m c l w3 HO.out (carry hR (by repeat (first | with_reducible assumption | exact Below.refl _ _ | refine below_next (by with_reducible assumption) ?_)))).mono ?_
      rintro e w4 ⟨v4, rfl, ho4, hb4⟩
      obtain ⟨A4, c4, rfl, hR4⟩ := own_slice ho4
      clear ho4
      go_wp2_with fail
      refine (rSameW_any A3 _ c3 _ A4 _ c4 _ w4 (carry hR3 hb4) hR4 (by omega) (by omega)).mono ?_
      rintro e w5 ⟨rfl, hb5⟩
      have ho5 := row_below ho (show Below wo.heap.size wo w5 from (by repeat (first | with_reducible assumption | exact Below.refl _ _ | refine below_next (by with_reducible assumption) ?_)))
      have hb05 : Below w.heap.size w w5 := (by repeat (first | with_reducible assumption | exact Below.refl _ _ | refine below_next (by with_reducible assumption) ?_))
      clear ho hR2 hR3 hR4 hb hb2 hb3 hb4 hb5 hq hq0 hqk
      by_cases he : nrm (l.map (trn k)) = nrm l
      · have HY := hide (syP_yes he)
        rw [he, decide_eq_true rfl]
        clear he
        go_wp2_with (at_builtin; refine wpList_push _ rfl (.tmp 16) (.tmp 18) _ rfl w.heap.size 3 (.int .i64 0) 1 8 Tryz.underlying34 info_int rfl (by decide) _ (syP l k).length _ rfl (ho5.alloc _) w5.heap.size [.int .i64 (k : Int)] rfl rfl (cell_new1 _ _ _) (one_int _) (by unfold maxLen; omega) (by omega) (le_alloc hb05.size _) ?_; intro v1 w6 ho6 hb6)
        go_roundw
        case rel => exact ⟨k + 1, by omega, by go_num, by rw [HY.out, List.length_append, ints_snoc]; exact ho6, (hb05.alloc hb05.size _).trans hb6⟩
        case measure => simp [intOf]; omega
      · have HY := hide (syP_no he)
        rw [decide_eq_false (fun e => he (asS_map e))]
        clear he
        go_wp2_with fail
        go_roundw
        case rel => exact ⟨k + 1, by omega, by go_num, by rw [HY.out]; exact ho5, hb05⟩
        case measure => simp [intOf]; omega
    · obtain rfl : k = 4 := by omega
      obtain ⟨A7, c7, rfl, hR7⟩ := own_slice ho
      go_wp2_with fail
      go_ret
      exact ⟨A7, _, c7, rfl, hR7, hb⟩
/-! ### The law -/
theorem nmO_len (l : List Src) : ((nmO l).map asS).length ≤ 16 := by
  rw [List.length_map]
  unfold nmO
  split
  · exact nrm_len1000 (lst_ok ‹_›)
  · simp
theorem syO_len (l : List Src) : (syO l).length ≤ 4 := by
  unfold syO
  split
  · rw [List.length_map]
    have := List.length_filter_le (fun n => decide (nrm (l.map (trn n)) = nrm l)) (List.range 4)
    rw [List.length_range] at this
    exact this
  · simp
theorem syO_is {l : List Src} (h : lstErr l = 0) : syO l = syP l 4 := by unfold syO; rw [if_pos h]; rfl
set_option maxHeartbeats 8000000 in
theorem lawWts_any (A : Option Addr) (m c : Nat) (l : List Src) (w : World) (hR : Reads w w.heap.size 4 A m (srcs l)) (hV : Vr w) (hT : Tens w) :
    Calls Tryz.prog 4 #[.slice A m c] w fun e w' => e = .returned (.bool true) ∧ Below w.heap.size w w' := by
  by_cases hs : shrt m 8 = true
  · have hm : m ≤ 17 := by unfold shrt at hs; simp at hs; omega
    have HSH := hide hs
    clear hs
    go_enter Tryz.func4, Tryz.ntmps4
    go_wp2_with fail
    refine (awake_any _ hV hT).mono ?_
    rintro e w2 ⟨rfl, hb2⟩
    go_wp2_with (go_at_call 18; refine (short_any _ _ _ _ _).mono ?_; rintro e W' ⟨rfl, rfl⟩; rw [HSH.out])
    refine (own_any A m c l _ (carry hR (by repeat (first | with_reducible assumption | exact Below.refl _ _ | refine below_next (by with_reducible assumption) ?_))) (by omega)).mono ?_
    rintro e w3 ⟨A3, c3, rfl, hR3, hb3⟩
    go_wp2_with fail
    refine (Normal_any A3 m c3 l _ hR3 (hV.carry (by repeat (first | with_reducible assumption | exact Below.refl _ _ | refine below_next (by with_reducible assumption) ?_))) (by omega)).mono ?_
    rintro e w4 ⟨⟨A4, m4, c4, rfl, hR4, hb4⟩, _⟩
    go_wp2_with fail
    refine (own_any A m c l _ (carry hR (by repeat (first | with_reducible assumption | exact Below.refl _ _ | refine below_next (by with_reducible assumption) ?_))) (by omega)).mono ?_
    rintro e w5 ⟨A5, c5, rfl, hR5, hb5⟩
    go_wp2_with fail
    refine (Symmetries_any A5 m c5 l _ hR5 (hV.carry (by repeat (first | with_reducible assumption | exact Below.refl _ _ | refine below_next (by with_reducible assumption) ?_))) (by omega)).mono ?_
    rintro e w6 ⟨A6, m6, c6, rfl, hR6, hb6⟩
    go_wp2_with fail
    refine (rCheckSources_any A m c l _ (carry hR (by repeat (first | with_reducible assumption | exact Below.refl _ _ | refine below_next (by with_reducible assumption) ?_))) (by omega)).mono ?_
    rintro e w7 ⟨rfl, hb7⟩
    have hRA := carry hR (w' := w7) (by repeat (first | with_reducible assumption | exact Below.refl _ _ | refine below_next (by with_reducible assumption) ?_))
    have R4 := carry hR4 (w' := w7) (by repeat (first | with_reducible assumption | exact Below.refl _ _ | refine below_next (by with_reducible assumption) ?_))
    have R6 := carry hR6 (w' := w7) (by repeat (first | with_reducible assumption | exact Below.refl _ _ | refine below_next (by with_reducible assumption) ?_))
    have hb07 : Below w.heap.size w w7 := (by repeat (first | with_reducible assumption | exact Below.refl _ _ | refine below_next (by with_reducible assumption) ?_))
    clear hb2 hb3 hb4 hb5 hb6 hb7 hR3 hR4 hR5 hR6 hV hT hR
    go_upto_if 33 with (fail)
    go_cut [8, 9] from 32 to 37 (fun sa sb wx => ∃ (Ax : Option Addr) (nx cx : Nat) (Ay : Option Addr) (ny cy : Nat), sa = .slice Ax nx cx ∧ sb = .slice Ay ny cy ∧ Reads wx wx.heap.size 4 Ax nx (srcs ((nmO l).map asS)) ∧ Reads wx wx.heap.size 1 Ay ny (ints (syO l)) ∧ Below w7.heap.size w7 wx)
    case first =>
      by_cases h0 : lstErr l = 0
      · have HO := hide (lst_ok h0)
        have HQ : Hid (nmO l = nrm l) := by show _ = _; unfold nmO; rw [if_pos h0]
        have HS := hide (syO_is h0)
        have t0 : (lstErr l == 0) = true := by rw [h0]; rfl
        clear h0
        go_wp2_with fail
        refine (rNormal_any A m c l _ HO.out hRA).mono ?_
        rintro e w8 ⟨v8, rfl, ho8, hb8⟩
        obtain ⟨A8, c8, rfl, hR8⟩ := own_slice ho8
        clear ho8
        go_wp2_with fail
        refine (rSymmetries_any A m c l _ HO.out (carry hRA hb8)).mono ?_
        rintro e w9 ⟨A9, m9, c9, rfl, hR9, hb9⟩
        go_wp2_with fail
        go_meet
        exact ⟨A8, _, c8, A9, m9, c9, rfl, rfl, by rw [HQ.out]; exact carry hR8 hb9, by rw [HS.out]; exact hR9, below_next hb8 hb9⟩
      · have HQ : Hid (nmO l = []) := by show _ = _; unfold nmO; rw [if_neg h0]
        have HS : Hid (syO l = []) := by show _ = _; unfold syO; rw [if_neg h0]
        have t0 : (lstErr l == 0) = false := by simpa using h0
        clear h0
        go_wp2_with fail
        go_meet
        exact ⟨none, 0, 0, none, 0, 0, rfl, rfl, by rw [HQ.out]; exact Reads.none_, by rw [HS.out]; exact Reads.none_, Below.refl _ _⟩
    case rest =>
      obtain ⟨A8, m8, c8, A9, m9, c9, rfl, rfl, hR8, hR9, hb8⟩ := hcut
      rename World => w8
      have L4 : Hid (m4 ≤ 1000) := by have := srcs_reads_len R4; have := nmO_len l; show _ ≤ _; omega
      have L8 : Hid (m8 ≤ 1000) := by have := srcs_reads_len hR8; have := nmO_len l; show _ ≤ _; omega
      have L6 : Hid (m6 ≤ 1000) := by have := reads_len R6; have := syO_len l; show _ ≤ _; omega
      have L9 : Hid (m9 ≤ 1000) := by have := reads_len hR9; have := syO_len l; show _ ≤ _; omega
      go_wp2_with fail
      refine (weights_any A4 m4 c4 _ _ (carry R4 (by repeat (first | with_reducible assumption | exact Below.refl _ _ | refine below_next (by with_reducible assumption) ?_))) (by have := L4.out; omega)).mono ?_
      rintro e w9 ⟨A10, c10, rfl, hR10, hb9⟩
      go_wp2_with fail
      refine (rSameW_any A10 m4 c10 _ A8 m8 c8 _ w9 hR10 (carry hR8 (by repeat (first | with_reducible assumption | exact Below.refl _ _ | refine below_next (by with_reducible assumption) ?_))) (by have := L4.out; omega) (by have := L8.out; omega)).mono ?_
      rintro e w10 ⟨rfl, hb10⟩
      rw [decide_eq_true rfl]
      go_wp2_with fail
      refine (sameInts_any A6 m6 c6 w10.heap.size _ A9 m9 c9 w10.heap.size _ w10 (carry R6 (by repeat (first | with_reducible assumption | exact Below.refl _ _ | refine below_next (by with_reducible assumption) ?_))) (carry hR9 (by repeat (first | with_reducible assumption | exact Below.refl _ _ | refine below_next (by with_reducible assumption) ?_))) (Nat.le_refl _) (Nat.le_refl _) (by have := L6.out; omega) (by have := L9.out; omega)).mono ?_
      rintro e w11 ⟨rfl, hb11⟩
      rw [decide_eq_true rfl]
      go_wp2_with fail
      go_ret
      exact ⟨rfl, (by repeat (first | with_reducible assumption | exact Below.refl _ _ | refine below_next (by with_reducible assumption) ?_))⟩
  · have hs : shrt m 8 = false := by simpa using hs
    go_enter Tryz.func4, Tryz.ntmps4
    go_wp2_with fail
    refine (awake_any _ hV hT).mono ?_
    rintro e w2 ⟨rfl, hb2⟩
    go_wp2_with (go_at_call 18; refine (short_any _ _ _ _ _).mono ?_; rintro e W' ⟨rfl, rfl⟩; rw [hs])
    refine (awake_any _ (hV.carry hb2) (tens_below hT hb2 hT.1)).mono ?_
    rintro e w3 ⟨rfl, hb3⟩
    go_wp2_with fail
    go_ret
    exact ⟨rfl, (by repeat (first | with_reducible assumption | exact Below.refl _ _ | refine below_next (by with_reducible assumption) ?_))⟩
end Go.Proofs.YtcihiglpahhboaaGreatDoor
