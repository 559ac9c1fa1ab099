/- Pressure, Level, Step, Path of the program. -/
import Derived.Test.YtcihiglpahhboaaGreatDoorBaseC
import Derived.Test.YtcihiglpahhboaaGreatDoorAPrs
import Derived.Test.YtcihiglpahhboaaGreatDoorPlainA
namespace Go.Proofs.YtcihiglpahhboaaGreatDoor
open Go.RowKit Go.Shelf
set_option maxRecDepth 100000
/-- The error of sources and a direction; the pressure, or 0. -/
def prE (l : List Src) (d : Int) : Int := fnz [lstErr l, rng d 0 7]
def prV (l : List Src) (d : Int) : G := if prE l d = 0 then prs l d.toNat else .zero
theorem prE_ok {l : List Src} {d : Int} (h : prE l d = 0) : LOk l ∧ ∃ k : Nat, k < 8 ∧ d = (k : Int) := by
  unfold prE at h
  rw [fnz_zero] at h
  have h1 := h _ (by simp : lstErr l ∈ [lstErr l, rng d 0 7])
  have h2 := rng_zero.1 (h _ (by simp : rng d 0 7 ∈ [lstErr l, rng d 0 7]))
  exact ⟨lst_ok h1, d.toNat, by omega, by omega⟩
theorem prV_ok {l : List Src} {k : Nat} (h : prE l (k : Int) = 0) : prV l k = prs l k := by unfold prV; rw [if_pos h]; rfl
theorem prV_bad {l : List Src} {d : Int} (h : ¬ prE l d = 0) : prV l d = .zero := by unfold prV; rw [if_neg h]
theorem prV_in (l : List Src) (d : Int) : (prV l d).nrm ≤ 1600 := by
  unfold prV
  split
  · rename_i h
    exact prs_in (prE_ok h).1 _
  · simp [G.nrm, G.zero]
set_option maxHeartbeats 1000000 in
theorem Pressure_any (A : Option Addr) (m c : Nat) (l : List Src) (d : Int) (w : World) (hR : Reads w w.heap.size 4 A m (srcs l)) (hV : Vr w) (hm : m ≤ 1000000) :
    Calls Tryz.prog 47 #[.slice A m c, .int .i64 d] w fun e w' => e = .returned (.tuple #[.agg #[.int .i64 (prV l d).re, .int .i64 (prV l d).im], .int .i64 (prE l d)]) ∧ Below w.heap.size w w' := by
  by_cases h0 : prE l d = 0
  · obtain ⟨hok, k, hk, rfl⟩ := prE_ok h0
    rw [prV_ok h0, h0]
    have t0 : (fnz [lstErr l, rng (k : Int) 0 7] != 0) = false := by rw [show fnz [lstErr l, rng (k : Int) 0 7] = 0 from h0]; rfl
    have HO := hide hok
    clear h0 hok
    go_enter Tryz.func47, Tryz.ntmps47
    go_upto_region 1 with (fail)
    obtain ⟨w1, e1, hb1, hz1, k0⟩ := box1 w #[.int .i64 0, .int .i64 0] 54
    rw [← e1]; clear e1
    go_wp2_with fail
    refine (CheckSources_any A m c l _ (carry hR hb1) (by omega)).mono ?_
    rintro e w2 ⟨rfl, hb2⟩
    go_wp2_with (first | (go_at_call 97; refine (checkDirection_any _ _).mono ?_; rintro e w' ⟨rfl, rfl⟩) | (go_at_call 86; (first | (with_reducible (refine (first_any _ _ _ _ _ _ (reads2 _ _ _ _) (by omega)).mono ?_)) | (with_reducible (refine (first_any _ _ _ _ _ _ (Reads.drew (reads2 _ _ _ _)) (by omega)).mono ?_))); rintro e W' ⟨rfl, rfl⟩))
    obtain ⟨w3, e3⟩ : ∃ w3, w3 = w2.alloc (.cells #[.int .i64 (lstErr l), .int .i64 (rng (k : Int) 0 7)] 27) := ⟨_, rfl⟩
    have hb3 : Below w2.heap.size w2 w3 := by rw [e3]; exact (Below.refl _ _).alloc (Nat.le_refl _) _
    rw [← e3]; clear e3
    refine (pressure_any A m c l k _ hk HO.out (carry hR (by repeat (first | with_reducible assumption | exact Below.refl _ _ | refine below_next (by with_reducible assumption) ?_))) (hV.carry (by repeat (first | with_reducible assumption | exact Below.refl _ _ | refine below_next (by with_reducible assumption) ?_)))).mono ?_
    rintro e w4 ⟨rfl, hb4⟩
    have k4 := carryK k0 (show Below w1.heap.size w1 w4 from (by repeat (first | with_reducible assumption | exact Below.refl _ _ | refine below_next (by with_reducible assumption) ?_)))
    have c4 := k4.cell
    have f4 := k4.frozen
    have hbw : Below w.heap.size w w4 := (by repeat (first | with_reducible assumption | exact Below.refl _ _ | refine below_next (by with_reducible assumption) ?_))
    go_wp2_with fail
    have kX := blk2 (u0 := .int .i64 (prs l k).re) (u1 := .int .i64 (prs l k).im) k4
    have hX := below2 (u0 := .int .i64 (prs l k).re) (u1 := .int .i64 (prs l k).im) hbw (Nat.le_refl w.heap.size)
    have cX := kX.cell
    clear c4 f4
    refine bodyPost_ret (v := .tuple #[.agg #[.int .i64 (prs l k).re, .int .i64 (prs l k).im], .int .i64 0]) (by simp [results, Tryz.results47, go_sem, cX]) rfl ?_
    exact ⟨rfl, hX⟩
  · rw [prV_bad h0]
    have t0 : (fnz [lstErr l, rng d 0 7] != 0) = true := by simpa using (show ¬ fnz [lstErr l, rng d 0 7] = 0 from h0)
    clear h0
    go_enter Tryz.func47, Tryz.ntmps47
    go_upto_region 1 with (fail)
    obtain ⟨w1, e1, hb1, hz1, k0⟩ := box1 w #[.int .i64 0, .int .i64 0] 54
    rw [← e1]; clear e1
    go_wp2_with fail
    refine (CheckSources_any A m c l _ (carry hR hb1) (by omega)).mono ?_
    rintro e w2 ⟨rfl, hb2⟩
    have k4 := carryK k0 hb2
    have c4 := k4.cell
    have f4 := k4.frozen
    have hA1 := alloc_cel
    have hA2 := alloc_fro
    have hl4 := k4.lt
    have hbw : Below w.heap.size w w2 := (by repeat (first | with_reducible assumption | exact Below.refl _ _ | refine below_next (by with_reducible assumption) ?_))
    go_wp2_with (first | (go_at_call 97; refine (checkDirection_any _ _).mono ?_; rintro e w' ⟨rfl, rfl⟩) | (go_at_call 86; (first | (with_reducible (refine (first_any _ _ _ _ _ _ (reads2 _ _ _ _) (by omega)).mono ?_)) | (with_reducible (refine (first_any _ _ _ _ _ _ (Reads.drew (reads2 _ _ _ _)) (by omega)).mono ?_))); rintro e W' ⟨rfl, rfl⟩))
    have kX := (blk2 (u0 := .int .i64 0) (u1 := .int .i64 0) k4).alloc (.cells #[.int .i64 (lstErr l), .int .i64 (rng d 0 7)] 27)
    have hX2 := below2 (u0 := .int .i64 0) (u1 := .int .i64 0) hbw (Nat.le_refl w.heap.size)
    have hX := hX2.alloc hX2.size (.cells #[.int .i64 (lstErr l), .int .i64 (rng d 0 7)] 27)
    have cX := kX.cell
    clear c4 f4
    refine bodyPost_ret (v := .tuple #[.agg #[.int .i64 G.zero.re, .int .i64 G.zero.im], .int .i64 (prE l d)]) (by simp [results, Tryz.results47, go_sem, cX, G.zero]; rfl) rfl ?_
    exact ⟨rfl, hX⟩
set_option maxHeartbeats 1000000 in
theorem Level_any (A : Option Addr) (m c : Nat) (l : List Src) (d : Int) (w : World) (hR : Reads w w.heap.size 4 A m (srcs l)) (hV : Vr w) (hm : m ≤ 1000000) :
    Calls Tryz.prog 48 #[.slice A m c, .int .i64 d] w fun e w' => e = .returned (.tuple #[.int .i64 (prV l d).sq, .int .i64 (prE l d)]) ∧ Below w.heap.size w w' := by
  have hs : wr (prV l d).sq = (prV l d).sq := wr_in (by have := sq_in (prV_in l d); omega)
  have HS := hide hs
  clear hs
  go_enter Tryz.func48, Tryz.ntmps48
  go_wp2_with fail
  refine (Pressure_any A m c l d w hR hV hm).mono ?_
  rintro e w1 ⟨rfl, hb1⟩
  go_upto_region 2 with (fail)
  obtain ⟨w2, e2, hb2, hz2, k0⟩ := box1 w1 #[.int .i64 (prV l d).re, .int .i64 (prV l d).im] 54
  rw [← e2]; clear e2
  have c0 := k0.cell
  go_wp2_with fail
  refine (square_any (prV l d) _).mono ?_
  rintro e w3 ⟨rfl, hb3⟩
  rw [HS.out]
  go_wp2_with fail
  go_ret2
  exact ⟨rfl, (by repeat (first | with_reducible assumption | exact Below.refl _ _ | refine below_next (by with_reducible assumption) ?_))⟩
end Go.Proofs.YtcihiglpahhboaaGreatDoor
