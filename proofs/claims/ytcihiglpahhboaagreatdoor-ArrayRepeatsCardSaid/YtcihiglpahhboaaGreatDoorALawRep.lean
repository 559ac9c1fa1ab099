/- The law ArrayRepeats: for all arguments it returns true. -/
import Derived.Test.YtcihiglpahhboaaGreatDoorAAwk
import Derived.Test.YtcihiglpahhboaaGreatDoorARRep
import Derived.Test.YtcihiglpahhboaaGreatDoorARBin
import Derived.Test.YtcihiglpahhboaaGreatDoorBaseM
namespace Go.Proofs.YtcihiglpahhboaaGreatDoor
open Go.RowKit Go.Shelf
set_option maxRecDepth 100000
theorem vld_len (l : List Src) : (vld l).length ≤ 16 := by
  unfold vld
  split
  · exact (lst_ok ‹_›).len
  · simp
theorem rpO_len (l b : List Src) : (rpO l b).1.length ≤ 16 := by
  unfold rpO
  split
  · exact vld_len _
  · simp
theorem rpO_bad {l b : List Src} (h : (rpO l b).2 ≠ 0) : (rpO l b).1 = [] := by
  unfold rpO at h ⊢
  split
  · rw [if_pos ‹_›] at h; exact vld_bad h
  · rfl
theorem bnO_len (n u v : Int) : (bnO n u v).1.length ≤ 16 := by
  unfold bnO
  split
  · exact vld_len _
  · simp
theorem bnO_bad {n u v : Int} (h : (bnO n u v).2 ≠ 0) : (bnO n u v).1 = [] := by
  unfold bnO at h ⊢
  split
  · rw [if_pos ‹_›] at h; exact vld_bad h
  · rfl
set_option maxHeartbeats 8000000 in
theorem lawRep_any (A : Option Addr) (m c : Nat) (l : List Src) (A' : Option Addr) (m' c' : Nat) (b : List Src) (n0 n1 n2 : Int) (w : World) (hR : Reads w w.heap.size 4 A m (srcs l)) (hR' : Reads w w.heap.size 4 A' m' (srcs b)) (hV : Vr w) (hT : Tens w) :
    Calls Tryz.prog 3 #[.slice A m c, .slice A' m' c', .agg #[.int .i64 n0, .int .i64 n1, .int .i64 n2]] w fun e w' => e = .returned (.bool true) ∧ Below w.heap.size w w' := by
  by_cases hs : shrt m 5 = true
  · by_cases hs' : shrt m' 5 = true
    · have hm : m ≤ 17 := by unfold shrt at hs; simp at hs; omega
      have hm' : m' ≤ 17 := by unfold shrt at hs'; simp at hs'; omega
      go_enter Tryz.func3, Tryz.ntmps3
      go_upto_region 1 with (fail)
      obtain ⟨w1, e1, hb1, hz1, kN⟩ := box1 w #[.int .i64 n0, .int .i64 n1, .int .i64 n2] 23
      rw [← e1]; clear e1
      go_wp2_with fail
      refine (awake_any _ (hV.carry hb1) (tens_below hT hb1 hT.1)).mono ?_
      rintro e w2 ⟨rfl, hb2⟩
      go_wp2_with (go_at_call 18; refine (short_any _ _ _ _ _).mono ?_; rintro e W' ⟨rfl, rfl⟩; (first | rw [hs] | rw [hs']))
      clear hs hs'
      refine (own_any A m c l _ (carry hR (by repeat (first | with_reducible assumption | exact Below.refl _ _ | refine below_next (by with_reducible assumption) ?_))) (by omega)).mono ?_
      rintro e w3 ⟨A3, c3, rfl, hR3, hb3⟩
      go_wp2_with fail
      refine (own_any A' m' c' b _ (carry hR' (by repeat (first | with_reducible assumption | exact Below.refl _ _ | refine below_next (by with_reducible assumption) ?_))) (by omega)).mono ?_
      rintro e w4 ⟨A4, c4, rfl, hR4, hb4⟩
      go_wp2_with fail
      refine (Repeat_any A3 m c3 l A4 m' c4 b _ (carry hR3 (by repeat (first | with_reducible assumption | exact Below.refl _ _ | refine below_next (by with_reducible assumption) ?_))) hR4 (by omega) (by omega)).mono ?_
      rintro e w5 ⟨A5, m5, c5, rfl, hR5, hb5⟩
      have HLE : Hid ((rpO l b).1.length ≤ 16) := rpO_len l b
      have HBA : Hid ((rpO l b).2 ≠ 0 → (rpO l b).1 = []) := fun h => rpO_bad h
      have cN := (carryK kN (w' := w5) (by repeat (first | with_reducible assumption | exact Below.refl _ _ | refine below_next (by with_reducible assumption) ?_))).cell
      go_wp2_with fail
      clear cN
      refine (Binomial_any n0 n1 n2 _).mono ?_
      rintro e w6 ⟨A6, m6, c6, rfl, hR6, hb6⟩
      go_wp2_with fail
      refine (rCheckSources_any A m c l _ (carry hR (by repeat (first | with_reducible assumption | exact Below.refl _ _ | refine below_next (by with_reducible assumption) ?_))) (by omega)).mono ?_
      rintro e w7a ⟨rfl, hb7a⟩
      go_wp2_with fail
      refine (rCheckSources_any A' m' c' b _ (carry hR' (by repeat (first | with_reducible assumption | exact Below.refl _ _ | refine below_next (by with_reducible assumption) ?_))) (by omega)).mono ?_
      rintro e w7b ⟨rfl, hb7b⟩
      by_cases h0 : rpE l b = 0
      · have hh : lstErr l = 0 ∧ lstErr b = 0 := by
          unfold rpE at h0
          rw [fnz_zero] at h0
          exact ⟨h0 _ (by simp), h0 _ (by simp)⟩
        have HO := hide (lst_ok hh.1)
        have HO' := hide (lst_ok hh.2)
        have HRP : Hid (rpO l b = (vld (rep l b), lstErr (rep l b))) := by show _ = _; unfold rpO; rw [if_pos h0]
        have t0 : (fnz [lstErr l, lstErr b] == 0) = true := by rw [show fnz [lstErr l, lstErr b] = 0 from h0]; rfl
        have H0 := hide h0
        clear h0 hh
        go_wp2_with ((go_at_call 22; (first | (with_reducible (refine (rFirst_any _ _ _ _ _ _ (reads2 _ _ _ _) (by omega)).mono ?_)) | (with_reducible (refine (rFirst_any _ _ _ _ _ _ (Reads.drew (reads2 _ _ _ _)) (by omega)).mono ?_))); rintro e W' ⟨rfl, rfl⟩))
        obtain ⟨w8, e8⟩ : ∃ w8, w8 = w7b.alloc (.cells #[.int .i64 (lstErr l), .int .i64 (lstErr b)] 3) := ⟨_, rfl⟩
        have hb8 : Below w7b.heap.size w7b w8 := by rw [e8]; exact (Below.refl _ _).alloc (Nat.le_refl _) _
        rw [← e8]; clear e8 t0
        refine (rRepeat_any A m c l A' m' c' b _ HO.out HO'.out (carry hR (by repeat (first | with_reducible assumption | exact Below.refl _ _ | refine below_next (by with_reducible assumption) ?_))) (carry hR' (by repeat (first | with_reducible assumption | exact Below.refl _ _ | refine below_next (by with_reducible assumption) ?_)))).mono ?_
        rintro e w9 ⟨A8, m8, c8, rfl, hR8, hb9⟩
        rw [HRP.out] at hR5 HLE HBA ⊢
        have cN := (carryK kN (w' := w9) (by repeat (first | with_reducible assumption | exact Below.refl _ _ | refine below_next (by with_reducible assumption) ?_))).cell
        go_wp2_with fail
        refine (rBinomial_any n0 n1 n2 _).mono ?_
        rintro e w10 ⟨A10, m10, c10, rfl, hR10, hb10⟩
        go_wp2_with fail
        refine (sources_any A5 m5 c5 _ _ A8 m8 c8 _ (carry hR5 (by repeat (first | with_reducible assumption | exact Below.refl _ _ | refine below_next (by with_reducible assumption) ?_))) (carry hR8 (by repeat (first | with_reducible assumption | exact Below.refl _ _ | refine below_next (by with_reducible assumption) ?_))) (by have := srcs_reads_len hR5; have := HLE.out; omega) (HBA.out)).mono ?_
        rintro e w11 ⟨rfl, hb11⟩
        go_wp2_with fail
        refine (sources_any A6 m6 c6 _ _ A10 m10 c10 _ (carry hR6 (by repeat (first | with_reducible assumption | exact Below.refl _ _ | refine below_next (by with_reducible assumption) ?_))) (carry hR10 (by repeat (first | with_reducible assumption | exact Below.refl _ _ | refine below_next (by with_reducible assumption) ?_))) (by have := srcs_reads_len hR6; have := bnO_len n0 n1 n2; omega) (fun h => bnO_bad h)).mono ?_
        rintro e w12 ⟨rfl, hb12⟩
        go_wp2_with fail
        go_ret
        exact ⟨rfl, (by repeat (first | with_reducible assumption | exact Below.refl _ _ | refine below_next (by with_reducible assumption) ?_))⟩
      · have HRP : Hid (rpO l b = ([], rpE l b)) := by show _ = _; unfold rpO; rw [if_neg h0]
        have t0 : (fnz [lstErr l, lstErr b] == 0) = false := by simpa using (show ¬ fnz [lstErr l, lstErr b] = 0 from h0)
        clear h0
        go_upto_region 9 with ((go_at_call 22; (first | (with_reducible (refine (rFirst_any _ _ _ _ _ _ (reads2 _ _ _ _) (by omega)).mono ?_)) | (with_reducible (refine (rFirst_any _ _ _ _ _ _ (Reads.drew (reads2 _ _ _ _)) (by omega)).mono ?_))); rintro e W' ⟨rfl, rfl⟩))
        obtain ⟨w8, e8⟩ : ∃ w8, w8 = w7b.alloc (.cells #[.int .i64 (lstErr l), .int .i64 (lstErr b)] 3) := ⟨_, rfl⟩
        have hb8 : Below w7b.heap.size w7b w8 := by rw [e8]; exact (Below.refl _ _).alloc (Nat.le_refl _) _
        rw [← e8]; clear e8 t0
        have hR8 : Reads w8 w8.heap.size 4 none 0 (srcs []) := Reads.none_
        rw [HRP.out] at hR5 HLE ⊢
        clear HBA
        have cN := (carryK kN (w' := w8) (by repeat (first | with_reducible assumption | exact Below.refl _ _ | refine below_next (by with_reducible assumption) ?_))).cell
        go_wp2_with fail
        refine (rBinomial_any n0 n1 n2 _).mono ?_
        rintro e w10 ⟨A10, m10, c10, rfl, hR10, hb10⟩
        go_wp2_with fail
        refine (sources_any A5 m5 c5 _ _ none 0 0 _ (carry hR5 (by repeat (first | with_reducible assumption | exact Below.refl _ _ | refine below_next (by with_reducible assumption) ?_))) (carry hR8 (by repeat (first | with_reducible assumption | exact Below.refl _ _ | refine below_next (by with_reducible assumption) ?_))) (by have := srcs_reads_len hR5; have := HLE.out; omega) (fun _ => rfl)).mono ?_
        rintro e w11 ⟨rfl, hb11⟩
        go_wp2_with fail
        refine (sources_any A6 m6 c6 _ _ A10 m10 c10 _ (carry hR6 (by repeat (first | with_reducible assumption | exact Below.refl _ _ | refine below_next (by with_reducible assumption) ?_))) (carry hR10 (by repeat (first | with_reducible assumption | exact Below.refl _ _ | refine below_next (by with_reducible assumption) ?_))) (by have := srcs_reads_len hR6; have := bnO_len n0 n1 n2; omega) (fun h => bnO_bad h)).mono ?_
        rintro e w12 ⟨rfl, hb12⟩
        go_wp2_with fail
        go_ret
        exact ⟨rfl, (by repeat (first | with_reducible assumption | exact Below.refl _ _ | refine below_next (by with_reducible assumption) ?_))⟩
    · have hs' : shrt m' 5 = false := by simpa using hs'
      go_enter Tryz.func3, Tryz.ntmps3
      go_upto_region 1 with (fail)
      obtain ⟨w1, e1, hb1, hz1, kN⟩ := box1 w #[.int .i64 n0, .int .i64 n1, .int .i64 n2] 23
      rw [← e1]; clear e1
      go_wp2_with fail
      refine (awake_any _ (hV.carry hb1) (tens_below hT hb1 hT.1)).mono ?_
      rintro e w2 ⟨rfl, hb2⟩
      go_wp2_with (go_at_call 18; refine (short_any _ _ _ _ _).mono ?_; rintro e W' ⟨rfl, rfl⟩; (first | rw [hs] | rw [hs']))
      refine (awake_any _ (hV.carry (by repeat (first | with_reducible assumption | exact Below.refl _ _ | refine below_next (by with_reducible assumption) ?_))) (tens_below hT (show Below w.heap.size w w2 from (by repeat (first | with_reducible assumption | exact Below.refl _ _ | refine below_next (by with_reducible assumption) ?_))) hT.1)).mono ?_
      rintro e w3 ⟨rfl, hb3⟩
      go_wp2_with fail
      go_ret
      exact ⟨rfl, (by repeat (first | with_reducible assumption | exact Below.refl _ _ | refine below_next (by with_reducible assumption) ?_))⟩
  · have hs : shrt m 5 = false := by simpa using hs
    go_enter Tryz.func3, Tryz.ntmps3
    go_upto_region 1 with (fail)
    obtain ⟨w1, e1, hb1, hz1, kN⟩ := box1 w #[.int .i64 n0, .int .i64 n1, .int .i64 n2] 23
    rw [← e1]; clear e1
    go_wp2_with fail
    refine (awake_any _ (hV.carry hb1) (tens_below hT hb1 hT.1)).mono ?_
    rintro e w2 ⟨rfl, hb2⟩
    go_wp2_with (go_at_call 18; refine (short_any _ _ _ _ _).mono ?_; rintro e W' ⟨rfl, rfl⟩; (first | rw [hs] | rw [hs']))
    refine (awake_any _ (hV.carry (by repeat (first | with_reducible assumption | exact Below.refl _ _ | refine below_next (by with_reducible assumption) ?_))) (tens_below hT (show Below w.heap.size w w2 from (by repeat (first | with_reducible assumption | exact Below.refl _ _ | refine below_next (by with_reducible assumption) ?_))) hT.1)).mono ?_
    rintro e w3 ⟨rfl, hb3⟩
    go_wp2_with fail
    go_ret
    exact ⟨rfl, (by repeat (first | with_reducible assumption | exact Below.refl _ _ | refine below_next (by with_reducible assumption) ?_))⟩
end Go.Proofs.YtcihiglpahhboaaGreatDoor
